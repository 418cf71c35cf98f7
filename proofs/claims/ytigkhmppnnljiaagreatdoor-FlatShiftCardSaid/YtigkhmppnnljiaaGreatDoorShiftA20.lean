/-
  What the proofs lean on: MkExt, MkEq, LawsL.
-/
import Derived.Deep.LoopGhost
import Derived.Deep.QuietTactic
import Derived.BigQuiet
import Derived.Test.YtigkhmppnnljiaaGreatDoorShiftA08
import Derived.Test.YtigkhmppnnljiaaGreatDoorShiftA09
import Derived.Test.YtigkhmppnnljiaaGreatDoorShiftA16
import Derived.Test.YtigkhmppnnljiaaGreatDoorShiftA18
namespace Go.Proofs.YtigkhmppnnljiaaGreatDoor
namespace Mk

/-- Instructions come behind. -/
def Ext (s s' : MSt) : Prop := ∃ seg, s'.code = s.code ++ seg
theorem Ext.refl (s : MSt) : Ext s s := ⟨[], by simp⟩
theorem Ext.trans {s s' s'' : MSt} (h : Ext s s') (h' : Ext s' s'') : Ext s s'' := by
  obtain ⟨a, ha⟩ := h
  obtain ⟨b, hb⟩ := h'
  exact ⟨a ++ b, by rw [hb, ha, List.append_assoc]⟩
theorem Ext.left {s s' t : MSt} (h : Ext s s') (e : t.code = s.code) : Ext t s' := by
  obtain ⟨a, ha⟩ := h
  exact ⟨a, by rw [e, ha]⟩
theorem Ext.put {s s' : MSt} (h : Ext s s') (x : Ins) : Ext s (s'.put x) := h.trans ⟨[x], rfl⟩
theorem Ext.len {s s' : MSt} (h : Ext s s') : s.code.length ≤ s'.code.length := by
  obtain ⟨a, ha⟩ := h
  rw [ha]; simp
theorem Ext.at {s s' : MSt} (h : Ext s s') {k : Nat} {x : Ins} (hx : s.code[k]? = some x) : s'.code[k]? = some x := by
  obtain ⟨a, ha⟩ := h
  rw [ha, List.getElem?_append_left (List.getElem?_eq_some_iff.1 hx).1, hx]
theorem modify_right (f : Ins → Ins) : ∀ (a b : List Ins) (k : Nat), a.length ≤ k → (a ++ b).modify k f = a ++ b.modify (k - a.length) f
  | [], b, k, _ => by simp
  | x :: a, b, 0, h => by simp at h
  | x :: a, b, k + 1, h => by
    simp only [List.length_cons, Nat.add_le_add_iff_right] at h
    rw [List.cons_append, List.modify_succ_cons, modify_right f a b k h, List.length_cons, Nat.add_sub_add_right, List.cons_append]
theorem Ext.setA {s s' : MSt} (h : Ext s s') {k : Nat} (hk : s.code.length ≤ k) (a : Int) : Ext s (s'.setA k a) := by
  obtain ⟨g, hg⟩ := h
  refine ⟨g.modify (k - s.code.length) (fun x => { x with a := a }), ?_⟩
  show s'.code.modify k _ = _
  rw [hg, modify_right _ _ _ _ hk]
theorem Ext.setB {s s' : MSt} (h : Ext s s') {k : Nat} (hk : s.code.length ≤ k) (a : Int) : Ext s (s'.setB k a) := by
  obtain ⟨g, hg⟩ := h
  refine ⟨g.modify (k - s.code.length) (fun x => { x with b := a }), ?_⟩
  show s'.code.modify k _ = _
  rw [hg, modify_right _ _ _ _ hk]
theorem Ext.ite {c : Prop} [Decidable c] {s a b : MSt} (ha : Ext s a) (hb : Ext s b) : Ext s (if c then a else b) := by split <;> assumption
theorem Ext.strict (op n d : Int) (l : List Int) (s : MSt) : Ext s (strict op n d l s) := by
  unfold Mk.strict
  repeat' (refine Ext.ite ?_ ?_)
  all_goals first | exact (Ext.refl s).put _ | exact ((Ext.refl s).put _).put _ | exact Ext.refl s
theorem Ext.ended (op n : Int) (l : List Int) (s : MSt) : Ext s (ended op n l s) := by
  unfold Mk.ended
  repeat' (refine Ext.ite ?_ ?_)
  all_goals exact (Ext.refl s).put _
theorem Ext.fix1 : ∀ (v : List Int) (t : List Trm) (s : MSt), Ext s (fix1 v t s)
  | [], t, s => by
    rw [Mk.fix1]
    · exact Ext.refl s
    · simp
  | v :: vs, [], s => by
    rw [Mk.fix1]
    · exact Ext.refl s
    · simp
  | v :: vs, x :: l, s => by
    rw [Mk.fix1]
    exact (Ext.put (s' := s.fresh.bind [v] [s.regs]) ⟨[], by simp [MSt.bind, MSt.fresh]⟩ _).trans (Ext.fix1 vs l _)
theorem Ext.thens {f g : Int → Bool → MSt → MSt} (hf : ∀ (d : Int) (e : Bool) (s : MSt), Ext s (f d e s)) (hg : ∀ (d : Int) (e : Bool) (s : MSt), Ext s (g d e s)) (c d : Int) (e : Bool) (s : MSt) : Ext s (thens f g c d e s) := by
  have h2 : Ext s (f d e (s.put ⟨16, 0, c, 0, []⟩)) := ((Ext.refl s).put _).trans (hf _ _ _)
  unfold Mk.thens
  dsimp only
  cases e with
  | true => exact (Ext.setB h2 (Nat.le_refl _) _).trans (hg _ _ _)
  | false => exact Ext.setA ((Ext.setB (h2.put _) (Nat.le_refl _) _).trans (hg _ _ _)) h2.len _
theorem Ext.had {lk : List (Int × Int) → Int → Int} (x : Trm) (hx : ∀ (d : Int) (e : Bool) (s : MSt), Ext s (into lk x d e s)) (s : MSt) : Ext s (hadW lk x.op x.n (into lk x) s).2 := by
  unfold hadW
  split
  · exact Ext.refl s
  · exact (hx _ _ _).left rfl
mutual
theorem Ext.into {lk : List (Int × Int) → Int → Int} : ∀ (x : Trm) (d : Int) (e : Bool) (s : MSt), Ext s (into lk x d e s)
  | .mk op n v t, d, e, s => by
    rw [Mk.into]
    split
    · exact Ext.choice t d e s
    split
    · exact Ext.seqs t d e s
    split
    · exact Ext.lets t v [] d e s
    split
    · exact (Ext.fix1 v t s).trans (Ext.fixs t v d e _)
    split
    · split
      · exact (Ext.allT t s).trans (Ext.ended _ _ _ _)
      · split
        · exact (Ext.refl s).put _
        · exact (((Ext.allT t s.fresh).left rfl).trans (Ext.strict _ _ _ _ _)).put _
    · split
      · exact (Ext.refl s).put _
      · exact (Ext.allT t s).trans (Ext.strict _ _ _ _ _)
theorem Ext.choice {lk : List (Int × Int) → Int → Int} : ∀ (l : List Trm) (d : Int) (e : Bool) (s : MSt), Ext s (choice lk l d e s)
  | [a, b, x], d, e, s => by
    rw [Mk.choice]
    exact (Ext.had a (Ext.into a) s).trans (Ext.thens (fun d e s => Ext.into b d e s) (fun d e s => Ext.into x d e s) _ _ _ _)
  | [], _, _, s => by rw [Mk.choice]; exact Ext.refl s; all_goals simp
  | [_], _, _, s => by rw [Mk.choice]; exact Ext.refl s; all_goals simp
  | [_, _], _, _, s => by rw [Mk.choice]; exact Ext.refl s; all_goals simp
  | _ :: _ :: _ :: _ :: _, _, _, s => by rw [Mk.choice]; exact Ext.refl s; all_goals simp
theorem Ext.allT {lk : List (Int × Int) → Int → Int} : ∀ (l : List Trm) (s : MSt), Ext s (allT lk l s).2
  | [], s => by rw [Mk.allT]; exact Ext.refl s
  | x :: l, s => by
    rw [Mk.allT]
    exact (Ext.had x (Ext.into x) s).trans (Ext.allT l _)
theorem Ext.seqs {lk : List (Int × Int) → Int → Int} : ∀ (l : List Trm) (d : Int) (e : Bool) (s : MSt), Ext s (seqs lk l d e s)
  | [], _, _, s => by rw [Mk.seqs]; exact Ext.refl s
  | [x], d, e, s => by
    rw [Mk.seqs]
    exact Ext.into x d e s
  | x :: y :: l, d, e, s => by
    rw [Mk.seqs]
    exact (Ext.had x (Ext.into x) s).trans (Ext.seqs (y :: l) d e _)
theorem Ext.lets {lk : List (Int × Int) → Int → Int} : ∀ (l : List Trm) (v rs : List Int) (d : Int) (e : Bool) (s : MSt), Ext s (lets lk l v rs d e s)
  | [], _, _, _, _, s => by rw [Mk.lets]; exact Ext.refl s
  | [x], v, rs, d, e, s => by
    rw [Mk.lets]
    exact (Ext.into x d e _).left rfl
  | x :: y :: l, v, rs, d, e, s => by
    rw [Mk.lets]
    exact (Ext.had x (Ext.into x) s).trans (Ext.lets (y :: l) v _ d e _)
theorem Ext.fixs {lk : List (Int × Int) → Int → Int} : ∀ (l : List Trm) (v : List Int) (d : Int) (e : Bool) (s : MSt), Ext s (fixs lk l v d e s)
  | [], _, _, _, s => by rw [Mk.fixs]; exact Ext.refl s
  | [x], v, d, e, s => by
    rw [Mk.fixs]
    exact Ext.into x d e s
  | .mk o m w t :: y :: l, v, d, e, s => by
    rw [Mk.fixs]
    exact ((Ext.allT t s).put _).trans (Ext.fixs (y :: l) v.tail d e _)
end

/-- A Fix's closures, filled. -/
def fill (lk : List (Int × Int) → Int → Int) : List Int → List Trm → MSt → MSt
  | v :: vs, x :: l, s => fill lk vs l ((allT lk x.t s).2.put ⟨8, 0, lk (allT lk x.t s).2.vars v, 0, (allT lk x.t s).1⟩)
  | _, _, s => s
theorem seqs_eq (lk : List (Int × Int) → Int → Int) : ∀ (l : List Trm) (x : Trm) (d : Int) (e : Bool) (s : MSt), seqs lk (l ++ [x]) d e s = into lk x d e (allT lk l s).2
  | [], x, d, e, s => by rw [List.nil_append, seqs, allT]
  | [y], x, d, e, s => by
    show seqs lk (y :: x :: []) d e s = _
    rw [seqs, seqs, allT, allT]
  | y :: z :: l, x, d, e, s => by
    show seqs lk (y :: z :: (l ++ [x])) d e s = _
    rw [seqs, allT]
    exact seqs_eq lk (z :: l) x d e _
theorem lets_eq (lk : List (Int × Int) → Int → Int) : ∀ (l : List Trm) (x : Trm) (v rs : List Int) (d : Int) (e : Bool) (s : MSt), lets lk (l ++ [x]) v rs d e s = into lk x d e ((allT lk l s).2.bind v (rs ++ (allT lk l s).1))
  | [], x, v, rs, d, e, s => by rw [List.nil_append, lets, allT, List.append_nil]
  | [y], x, v, rs, d, e, s => by
    show lets lk (y :: x :: []) v rs d e s = _
    rw [lets, lets, allT, allT]
  | y :: z :: l, x, v, rs, d, e, s => by
    show lets lk (y :: z :: (l ++ [x])) v rs d e s = _
    rw [lets, allT]
    dsimp only
    rw [show rs ++ ((hadW lk y.op y.n (into lk y) s).1 :: (allT lk (z :: l) (hadW lk y.op y.n (into lk y) s).2).1) = rs ++ [(hadW lk y.op y.n (into lk y) s).1] ++ (allT lk (z :: l) (hadW lk y.op y.n (into lk y) s).2).1 by simp]
    exact lets_eq lk (z :: l) x v _ d e _
theorem fixs_eq (lk : List (Int × Int) → Int → Int) : ∀ (l : List Trm) (x : Trm) (v : List Int) (d : Int) (e : Bool) (s : MSt), l.length = v.length → fixs lk (l ++ [x]) v d e s = into lk x d e (fill lk v l s)
  | [], x, [], d, e, s, _ => by
    rw [List.nil_append, fixs, fill]
    simp
  | y :: l, x, [], d, e, s, h => by simp at h
  | [], x, v :: vs, d, e, s, h => by simp at h
  | .mk o m u t :: [], x, v :: vs, d, e, s, h => by
    show fixs lk (.mk o m u t :: x :: []) (v :: vs) d e s = _
    rw [fixs, fill, fixs, fill]
    · rfl
    · simp
  | .mk o m u t :: z :: l, x, v :: vs, d, e, s, h => by
    show fixs lk (.mk o m u t :: z :: (l ++ [x])) (v :: vs) d e s = _
    rw [fixs, fill]
    exact fixs_eq lk (z :: l) x vs d e _ (by simpa using h)
theorem fix1_snoc : ∀ (v : List Int) (t : List Trm) (j : Nat) (x : Int) (y : Trm) (s : MSt), v[j]? = some x → t[j]? = some y → fix1 (v.take (j + 1)) t s = (((fix1 (v.take j) t s).fresh.bind [x] [(fix1 (v.take j) t s).regs]).put ⟨7, (fix1 (v.take j) t s).regs, y.n, 0, []⟩)
  | [], t, j, x, y, s, hx, hy => by simp at hx
  | v :: vs, [], j, x, y, s, hx, hy => by simp at hy
  | v :: vs, z :: t, 0, x, y, s, hx, hy => by
    simp only [List.getElem?_cons_zero, Option.some.injEq] at hx hy
    subst hx hy
    have h0 : ∀ (l : List Trm) (s : MSt), fix1 [] l s = s := fun l s => by rw [fix1]; simp
    rw [List.take_succ_cons, List.take_zero, List.take_zero, fix1, h0, h0]
  | v :: vs, z :: t, j + 1, x, y, s, hx, hy => by
    rw [List.take_succ_cons, List.take_succ_cons, fix1, fix1]
    exact fix1_snoc vs t j x y _ (by simpa using hx) (by simpa using hy)
theorem fill_snoc (lk : List (Int × Int) → Int → Int) : ∀ (v : List Int) (t : List Trm) (j : Nat) (x : Int) (y : Trm) (s : MSt), v[j]? = some x → t[j]? = some y → fill lk (v.take (j + 1)) t s = ((allT lk y.t (fill lk (v.take j) t s)).2.put ⟨8, 0, lk (allT lk y.t (fill lk (v.take j) t s)).2.vars x, 0, (allT lk y.t (fill lk (v.take j) t s)).1⟩)
  | [], t, j, x, y, s, hx, hy => by simp at hx
  | v :: vs, [], j, x, y, s, hx, hy => by simp at hy
  | v :: vs, z :: t, 0, x, y, s, hx, hy => by
    simp only [List.getElem?_cons_zero, Option.some.injEq] at hx hy
    subst hx hy
    have h0 : ∀ (l : List Trm) (s : MSt), fill lk [] l s = s := fun l s => by rw [fill]; simp
    rw [List.take_succ_cons, List.take_zero, List.take_zero, fill, h0, h0]
  | v :: vs, z :: t, j + 1, x, y, s, hx, hy => by
    rw [List.take_succ_cons, List.take_succ_cons, fill, fill]
    exact fill_snoc lk vs t j x y _ (by simpa using hx) (by simpa using hy)
theorem fill_take (lk : List (Int × Int) → Int → Int) : ∀ (v : List Int) (t : List Trm) (s : MSt), fill lk v (t.take v.length) s = fill lk v t s
  | [], t, s => by rw [fill, fill] <;> simp
  | v :: vs, [], s => by simp
  | v :: vs, z :: t, s => by
    rw [List.length_cons, List.take_succ_cons, fill, fill]
    exact fill_take lk vs t _
/-- Room for the filling. -/
theorem Room.fill {lk : List (Int × Int) → Int → Int} (hl : LkOk lk) : ∀ (v : List Int) (t : List Trm) {s : MSt} {k : Nat}, Room s (k + (6 * Trm.allL t - 5 * t.length)) → Room (fill lk v t s) k
  | [], t, s, k, h => by rw [Mk.fill]; exact h.mono (by omega); simp
  | v :: vs, [], s, k, h => by rw [Mk.fill]; exact h.mono (by omega); simp
  | v :: vs, .mk o m w t :: l, s, k, h => by
    have hk := Trm.allL_length l
    rw [Trm.allL, Trm.all] at h
    simp only [List.length_cons] at h
    rw [Mk.fill]
    refine Room.fill hl vs l (Room.put (Room.allT hl t s (k + (6 * Trm.allL l - 5 * l.length) + 1) (h.mono (by omega))).1 _)
end Mk
end Go.Proofs.YtigkhmppnnljiaaGreatDoor

namespace Go.Proofs.YtigkhmppnnljiaaGreatDoor
namespace Mk

end Mk
namespace Mdl
theorem codes_each {nc nk : Int} : ∀ {l : List Cod} {B : Int → Bool}, codesB nc nk l B = true → ∀ c ∈ l, Trm.wf nc nk true c.body (Trm.addV (fun _ => false) c.v) = true ∧ (c.v ++ c.body.bnd).Nodup ∧ (c.rest = true → 0 < c.v.length)
  | [], _, _, c, h => by simp at h
  | x :: l, B, h, c, hc => by
    rw [codesB] at h
    simp only [Bool.and_eq_true] at h
    obtain ⟨h1, h2, h3, h4⟩ := h
    rcases List.mem_cons.1 hc with rfl | hc
    · exact ⟨h3, ((Trm.newB_iff _ _).1 h2).2, fun hr => by simpa [hr] using h1⟩
    · exact codes_each h4 c hc
end Mdl
end Go.Proofs.YtigkhmppnnljiaaGreatDoor

namespace Go.Proofs.YtigkhmppnnljiaaGreatDoor
open Go.RowKit

theorem take_snoc_eq {l l' : List Int} {j : Nat} {x : Int} (h : l[j]? = some x) (h' : l'[j]? = some x) (ht : l.take j = l'.take j) : l.take (j + 1) = l'.take (j + 1) := by
  rw [List.take_add_one, List.take_add_one, h, h', ht]

set_option maxHeartbeats 2000000 in
set_option maxRecDepth 100000 in
theorem ints06_any (l l' : List Int) (sl sl' : Value) (B : Nat) (w : World) (hv : SlC w B 1 IntR l sl) (hv' : SlC w B 1 IntR l' sl') (r : Bool) (hr : decide (l = l') = r) :
    Calls Tryz.prog 48 #[sl, sl'] w fun e w' => e = .returned (.bool r) ∧ ∃ nd, w' = w.drewN nd := by
  obtain ⟨o, n, c, rfl⟩ := hv.form
  obtain ⟨o', n', c', rfl⟩ := hv'.form
  obtain ⟨hn, hc, hm⟩ := hv.lens
  obtain ⟨hn', hc', hm'⟩ := hv'.lens
  have HV := Lib.hid hv
  have HV' := Lib.hid hv'
  have HN := Lib.hid hn
  have HN' := Lib.hid hn'
  have HR := Lib.hid hr
  by_cases hne : n = n'
  · clear hv hv' hr hn hn'
    subst hne
    have d0 : ((n : Int) != (n : Int)) = false := by simp
    go_enter Tryz.func48, Tryz.ntmps48
    go_wp2_with fail
    go_loopg [5] n (fun g i wr => ∃ j : Nat, g = n - j ∧ j ≤ n ∧ i = .int .i64 j ∧ Hid (l.take j = l'.take j) ∧ ∃ nd, wr = w.drewN nd)
    case atStart => exact ⟨0, rfl, by omega, rfl, rfl, 0, rfl⟩
    case round =>
      obtain ⟨j, rfl, hj, rfl, HT, nd, rfl⟩ := hrel
      by_cases hjl : j < n
      · obtain ⟨x, hx⟩ : ∃ x, l[j]? = some x := ⟨_, List.getElem?_eq_getElem (by rw [← HN.out]; exact hjl)⟩
        obtain ⟨y, hy⟩ : ∃ y, l'[j]? = some y := ⟨_, List.getElem?_eq_getElem (by rw [← HN'.out]; exact hjl)⟩
        obtain ⟨b1, off1, cs, ho1, _, _, hcell, hR⟩ := HV.out.at (Below.refl _ _) hx
        obtain ⟨b2, off2, ds, ho2, _, _, hdell, hR'⟩ := HV'.out.at (Below.refl _ _) hy
        subst ho1 ho2
        obtain ⟨rfl, _⟩ := hR
        obtain ⟨rfl, _⟩ := hR'
        have e0 := hcell 0 _ rfl
        have f0 := hdell 0 _ rfl
        rw [Nat.mul_one, Nat.add_zero] at e0 f0
        have HX := Lib.hid hx
        have HY := Lib.hid hy
        clear hx hy hcell hdell
        by_cases hxy : x = y
        · subst hxy
          have g0 : ((x : Int) != x) = false := by simp
          have HT2 := Lib.hid (take_snoc_eq HX.out HY.out HT.out)
          go_wp2_with fail
          go_quiet (fail)
          go_wp2_with fail
          go_roundg (n - (j + 1))
          case measure => omega
          case rel => exact ⟨j + 1, rfl, by omega, by go_num, HT2, _, rfl⟩
        · have g0 : (x != y) = true := by simpa using hxy
          obtain rfl : r = false := by
            rw [← HR.out]
            refine decide_eq_false fun e => hxy ?_
            have h1 := HX.out
            rw [e, HY.out] at h1
            exact (Option.some.inj h1).symm
          go_wp2_with fail
          go_quiet (fail)
          go_wp2_with fail
          go_ret
          exact ⟨rfl, nd + nq, World.drewN_drewN _ _ _⟩
      · obtain rfl : j = n := by omega
        obtain rfl : r = true := by
          rw [← HR.out]
          refine decide_eq_true ?_
          have h1 := HT.out
          rwa [List.take_of_length_le (by rw [← HN.out]; exact Nat.le_refl _), List.take_of_length_le (by rw [← HN'.out]; exact Nat.le_refl _)] at h1
        go_wp2_with fail
        go_ret
        exact ⟨rfl, _, rfl⟩
  · obtain rfl : r = false := by
      rw [← hr]
      exact decide_eq_false fun e => hne (by rw [hn, hn', e])
    have d0 : ((n : Int) != (n' : Int)) = true := by simpa using fun e => hne (by omega)
    clear hv hv' hr hn hn'
    go_enter Tryz.func48, Tryz.ntmps48
    go_wp2_with fail
    go_ret
    exact ⟨rfl, 0, rfl⟩

set_option maxHeartbeats 1000000 in
set_option maxRecDepth 100000 in
/-- SameIns at two readings of one instruction. -/
theorem sameIns_self (x : Ins) (c0 c1 c2 c3 c4 d0 d1 d2 d3 d4 : Value) (B : Nat) (w : World) (hx : InsR w B x [c0, c1, c2, c3, c4]) (hy : InsR w B x [d0, d1, d2, d3, d4]) (hB : B ≤ w.heap.size) :
    Calls Tryz.prog 78 #[.agg #[c0, c1, c2, c3, c4], .agg #[d0, d1, d2, d3, d4]] w fun e w' => e = .returned (.bool true) ∧ Below w.heap.size w w' := by
  obtain ⟨k, d, a, b, l⟩ := x
  obtain ⟨sl, he, _, _, _, _, hl⟩ := hx
  obtain ⟨sl', he', _, _, _, _, hl'⟩ := hy
  simp only [List.cons.injEq, and_true] at he he'
  obtain ⟨rfl, rfl, rfl, rfl, rfl⟩ := he
  obtain ⟨rfl, rfl, rfl, rfl, rfl⟩ := he'
  obtain ⟨o, n, c, rfl⟩ := hl.form
  obtain ⟨o', n', c', rfl⟩ := hl'.form
  have HC := Lib.hid (fun X Y => ints06_any l l _ _ B ((w.alloc X).alloc Y) (hl.kept (((Below.one w X).trans ((Below.one _ Y).mono (by simp))).mono hB) fun _ _ _ h => h) (hl'.kept (((Below.one w X).trans ((Below.one _ Y).mono (by simp))).mono hB) fun _ _ _ h => h) true (by simp))
  clear hl hl'
  go_enter Tryz.func78, Tryz.ntmps78
  go_wp2_with fail
  refine (HC.out _ _).mono ?_
  rintro e w1 ⟨rfl, nd, rfl⟩
  go_wp2_with fail
  go_ret
  exact ⟨rfl, ⟨rfl, rfl, rfl, by simp [World.drewN]; omega, fun b hb => ((Below.one w _).trans ((Below.one _ _).mono (by simp))).block b hb⟩⟩
end Go.Proofs.YtigkhmppnnljiaaGreatDoor

namespace Go.Proofs.YtigkhmppnnljiaaGreatDoor
open Go.RowKit

end Go.Proofs.YtigkhmppnnljiaaGreatDoor

namespace Go.Proofs.YtigkhmppnnljiaaGreatDoor
open Go.RowKit

/-- A block of the call's own reads as a slice. -/
theorem slC_of_box {α : Type} {w : World} {B b size n : Nat} {te : TypeId} {R : α → List Value → Prop} {l : List α} {cs : List Value} (hb : BoxL w b te cs) (hB : b < B) (hc : CellsG size R l cs) (hn : n = l.length) (hm : n ≤ 1000000) : SlC w B size R l (.slice (some ⟨b, 0, none⟩) n n) := by
  refine ⟨_, n, n, rfl, hn, Nat.le_refl _, by omega, fun _ => ⟨rfl, hB⟩, fun i x hx => ?_⟩
  obtain ⟨cs', h1, h2, h3⟩ := hc.at hx
  exact ⟨cs', h1, fun j u hj => by have := h3 j u hj; simpa using hb.cell _ this, h2⟩
theorem ints_nil (w : World) (B : Nat) : SlC w B 1 IntR [] (.slice none 0 0) := ⟨none, 0, 0, rfl, rfl, by omega, by omega, rfl, rfl⟩
namespace Live
end Live

end Go.Proofs.YtigkhmppnnljiaaGreatDoor

namespace Go.Proofs.YtigkhmppnnljiaaGreatDoor
open Go.RowKit

namespace Live
open Unt Peep
end Live
end Go.Proofs.YtigkhmppnnljiaaGreatDoor

/-
  What the proofs lean on: ChkB, MkExt.
-/
import Derived.Maps.Own
import Derived.Maps.OwnOps
import Derived.Maps.Views
import Derived.Maps.OwnSet
import Derived.WideKeyEntry
import Derived.Deep.LoopGhost
import Derived.Deep.Cut
import Derived.Deep.CutRange
import Derived.Test.YtigkhmppnnljiaaGreatDoorLsoA12
import Derived.Test.YtigkhmppnnljiaaGreatDoorLsoA13
import Derived.Test.YtigkhmppnnljiaaGreatDoorLsoA20
import Derived.Test.YtigkhmppnnljiaaGreatDoorLsoA23
set_option maxRecDepth 100000
set_option maxHeartbeats 16000000
namespace Go.Proofs.YtigkhmppnnljiaaGreatDoor
section
open Go Go.RowKit
def setOf (l : List Int) : Int → Bool := Trm.addV (fun _ => false) l
end
section
namespace Mk
def Ext (s s' : MSt) : Prop := ∃ seg, s'.code = s.code ++ seg
theorem Ext.refl (s : MSt) : Ext s s := ⟨[], by simp⟩
theorem Ext.trans {s s' s'' : MSt} (h : Ext s s') (h' : Ext s' s'') : Ext s s'' := by
 obtain ⟨a, ha⟩ := h
 obtain ⟨b, hb⟩ := h'
 exact ⟨a ++ b, by rw [hb, ha, List.append_assoc]⟩
theorem Ext.left {s s' t : MSt} (h : Ext s s') (e : t.code = s.code) : Ext t s' := by
 obtain ⟨a, ha⟩ := h
 exact ⟨a, by rw [e, ha]⟩
theorem Ext.put {s s' : MSt} (h : Ext s s') (x : Ins) : Ext s (s'.put x) := h.trans ⟨[x], rfl⟩
theorem Ext.len {s s' : MSt} (h : Ext s s') : s.code.length ≤ s'.code.length := by
 obtain ⟨a, ha⟩ := h
 rw [ha]; simp
theorem Ext.at {s s' : MSt} (h : Ext s s') {k : Nat} {x : Ins} (hx : s.code[k]? = some x) : s'.code[k]? = some x := by
 obtain ⟨a, ha⟩ := h
 rw [ha, List.getElem?_append_left (List.getElem?_eq_some_iff.1 hx).1, hx]
theorem modify_right (f : Ins → Ins) : ∀ (a b : List Ins) (k : Nat), a.length ≤ k → (a ++ b).modify k f = a ++ b.modify (k - a.length) f
 | [], b, k, _ => by simp
 | x :: a, b, 0, h => by simp at h
 | x :: a, b, k + 1, h => by
  simp only [List.length_cons, Nat.add_le_add_iff_right] at h
  rw [List.cons_append, List.modify_succ_cons, modify_right f a b k h, List.length_cons, Nat.add_sub_add_right, List.cons_append]
theorem Ext.setA {s s' : MSt} (h : Ext s s') {k : Nat} (hk : s.code.length ≤ k) (a : Int) : Ext s (s'.setA k a) := by
 obtain ⟨g, hg⟩ := h
 refine ⟨g.modify (k - s.code.length) (fun x => { x with a := a }), ?_⟩
 show s'.code.modify k _ = _
 rw [hg, modify_right _ _ _ _ hk]
theorem Ext.setB {s s' : MSt} (h : Ext s s') {k : Nat} (hk : s.code.length ≤ k) (a : Int) : Ext s (s'.setB k a) := by
 obtain ⟨g, hg⟩ := h
 refine ⟨g.modify (k - s.code.length) (fun x => { x with b := a }), ?_⟩
 show s'.code.modify k _ = _
 rw [hg, modify_right _ _ _ _ hk]
theorem Ext.ite {c : Prop} [Decidable c] {s a b : MSt} (ha : Ext s a) (hb : Ext s b) : Ext s (if c then a else b) := by split <;> assumption
theorem Ext.strict (op n d : Int) (l : List Int) (s : MSt) : Ext s (strict op n d l s) := by
 unfold Mk.strict
 repeat' (refine Ext.ite ?_ ?_)
 all_goals first | exact (Ext.refl s).put _ | exact ((Ext.refl s).put _).put _ | exact Ext.refl s
theorem Ext.ended (op n : Int) (l : List Int) (s : MSt) : Ext s (ended op n l s) := by
 unfold Mk.ended
 repeat' (refine Ext.ite ?_ ?_)
 all_goals exact (Ext.refl s).put _
theorem Ext.fix1 : ∀ (v : List Int) (t : List Trm) (s : MSt), Ext s (fix1 v t s)
 | [], t, s => by
  rw [Mk.fix1]
  ·exact Ext.refl s
  ·simp
 | v :: vs, [], s => by
  rw [Mk.fix1]
  ·exact Ext.refl s
  ·simp
 | v :: vs, x :: l, s => by
  rw [Mk.fix1]
  exact (Ext.put (s' := s.fresh.bind [v] [s.regs]) ⟨[], by simp [MSt.bind, MSt.fresh]⟩ _).trans (Ext.fix1 vs l _)
theorem Ext.thens {f g : Int → Bool → MSt → MSt} (hf : ∀ (d : Int) (e : Bool) (s : MSt), Ext s (f d e s)) (hg : ∀ (d : Int) (e : Bool) (s : MSt), Ext s (g d e s)) (c d : Int) (e : Bool) (s : MSt) : Ext s (thens f g c d e s) := by
 have h2 : Ext s (f d e (s.put ⟨16, 0, c, 0, []⟩)) := ((Ext.refl s).put _).trans (hf _ _ _)
 unfold Mk.thens
 dsimp only
 cases e with
 | true => exact (Ext.setB h2 (Nat.le_refl _) _).trans (hg _ _ _)
 | false => exact Ext.setA ((Ext.setB (h2.put _) (Nat.le_refl _) _).trans (hg _ _ _)) h2.len _
theorem Ext.had {lk : List (Int × Int) → Int → Int} (x : Trm) (hx : ∀ (d : Int) (e : Bool) (s : MSt), Ext s (into lk x d e s)) (s : MSt) : Ext s (hadW lk x.op x.n (into lk x) s).2 := by
 unfold hadW
 split
 ·exact Ext.refl s
 ·exact (hx _ _ _).left rfl
mutual
theorem Ext.into {lk : List (Int × Int) → Int → Int} : ∀ (x : Trm) (d : Int) (e : Bool) (s : MSt), Ext s (into lk x d e s)
 | .mk op n v t, d, e, s => by
  rw [Mk.into]
  split
  ·exact Ext.choice t d e s
  split
  ·exact Ext.seqs t d e s
  split
  ·exact Ext.lets t v [] d e s
  split
  ·exact (Ext.fix1 v t s).trans (Ext.fixs t v d e _)
  split
  ·split
   ·exact (Ext.allT t s).trans (Ext.ended _ _ _ _)
   ·split
    ·exact (Ext.refl s).put _
    ·exact (((Ext.allT t s.fresh).left rfl).trans (Ext.strict _ _ _ _ _)).put _
  ·split
   ·exact (Ext.refl s).put _
   ·exact (Ext.allT t s).trans (Ext.strict _ _ _ _ _)
theorem Ext.choice {lk : List (Int × Int) → Int → Int} : ∀ (l : List Trm) (d : Int) (e : Bool) (s : MSt), Ext s (choice lk l d e s)
 | [a, b, x], d, e, s => by
  rw [Mk.choice]
  exact (Ext.had a (Ext.into a) s).trans (Ext.thens (fun d e s => Ext.into b d e s) (fun d e s => Ext.into x d e s) _ _ _ _)
 | [], _, _, s => by rw [Mk.choice]; exact Ext.refl s; all_goals simp
 | [_], _, _, s => by rw [Mk.choice]; exact Ext.refl s; all_goals simp
 | [_, _], _, _, s => by rw [Mk.choice]; exact Ext.refl s; all_goals simp
 | _ :: _ :: _ :: _ :: _, _, _, s => by rw [Mk.choice]; exact Ext.refl s; all_goals simp
theorem Ext.allT {lk : List (Int × Int) → Int → Int} : ∀ (l : List Trm) (s : MSt), Ext s (allT lk l s).2
 | [], s => by rw [Mk.allT]; exact Ext.refl s
 | x :: l, s => by
  rw [Mk.allT]
  exact (Ext.had x (Ext.into x) s).trans (Ext.allT l _)
theorem Ext.seqs {lk : List (Int × Int) → Int → Int} : ∀ (l : List Trm) (d : Int) (e : Bool) (s : MSt), Ext s (seqs lk l d e s)
 | [], _, _, s => by rw [Mk.seqs]; exact Ext.refl s
 | [x], d, e, s => by
  rw [Mk.seqs]
  exact Ext.into x d e s
 | x :: y :: l, d, e, s => by
  rw [Mk.seqs]
  exact (Ext.had x (Ext.into x) s).trans (Ext.seqs (y :: l) d e _)
theorem Ext.lets {lk : List (Int × Int) → Int → Int} : ∀ (l : List Trm) (v rs : List Int) (d : Int) (e : Bool) (s : MSt), Ext s (lets lk l v rs d e s)
 | [], _, _, _, _, s => by rw [Mk.lets]; exact Ext.refl s
 | [x], v, rs, d, e, s => by
  rw [Mk.lets]
  exact (Ext.into x d e _).left rfl
 | x :: y :: l, v, rs, d, e, s => by
  rw [Mk.lets]
  exact (Ext.had x (Ext.into x) s).trans (Ext.lets (y :: l) v _ d e _)
theorem Ext.fixs {lk : List (Int × Int) → Int → Int} : ∀ (l : List Trm) (v : List Int) (d : Int) (e : Bool) (s : MSt), Ext s (fixs lk l v d e s)
 | [], _, _, _, s => by rw [Mk.fixs]; exact Ext.refl s
 | [x], v, d, e, s => by
  rw [Mk.fixs]
  exact Ext.into x d e s
 | .mk o m w t :: y :: l, v, d, e, s => by
  rw [Mk.fixs]
  exact ((Ext.allT t s).put _).trans (Ext.fixs (y :: l) v.tail d e _)
end
def fill (lk : List (Int × Int) → Int → Int) : List Int → List Trm → MSt → MSt
 | v :: vs, x :: l, s => fill lk vs l ((allT lk x.t s).2.put ⟨8, 0, lk (allT lk x.t s).2.vars v, 0, (allT lk x.t s).1⟩)
 | _, _, s => s
theorem seqs_eq (lk : List (Int × Int) → Int → Int) : ∀ (l : List Trm) (x : Trm) (d : Int) (e : Bool) (s : MSt), seqs lk (l ++ [x]) d e s = into lk x d e (allT lk l s).2
 | [], x, d, e, s => by rw [List.nil_append, seqs, allT]
 | [y], x, d, e, s => by
  show seqs lk (y :: x :: []) d e s = _
  rw [seqs, seqs, allT, allT]
 | y :: z :: l, x, d, e, s => by
  show seqs lk (y :: z :: (l ++ [x])) d e s = _
  rw [seqs, allT]
  exact seqs_eq lk (z :: l) x d e _
theorem lets_eq (lk : List (Int × Int) → Int → Int) : ∀ (l : List Trm) (x : Trm) (v rs : List Int) (d : Int) (e : Bool) (s : MSt), lets lk (l ++ [x]) v rs d e s = into lk x d e ((allT lk l s).2.bind v (rs ++ (allT lk l s).1))
 | [], x, v, rs, d, e, s => by rw [List.nil_append, lets, allT, List.append_nil]
 | [y], x, v, rs, d, e, s => by
  show lets lk (y :: x :: []) v rs d e s = _
  rw [lets, lets, allT, allT]
 | y :: z :: l, x, v, rs, d, e, s => by
  show lets lk (y :: z :: (l ++ [x])) v rs d e s = _
  rw [lets, allT]
  dsimp only
  rw [show rs ++ ((hadW lk y.op y.n (into lk y) s).1 :: (allT lk (z :: l) (hadW lk y.op y.n (into lk y) s).2).1) = rs ++ [(hadW lk y.op y.n (into lk y) s).1] ++ (allT lk (z :: l) (hadW lk y.op y.n (into lk y) s).2).1 by simp]
  exact lets_eq lk (z :: l) x v _ d e _
theorem fixs_eq (lk : List (Int × Int) → Int → Int) : ∀ (l : List Trm) (x : Trm) (v : List Int) (d : Int) (e : Bool) (s : MSt), l.length = v.length → fixs lk (l ++ [x]) v d e s = into lk x d e (fill lk v l s)
 | [], x, [], d, e, s, _ => by
  rw [List.nil_append, fixs, fill]
  simp
 | y :: l, x, [], d, e, s, h => by simp at h
 | [], x, v :: vs, d, e, s, h => by simp at h
 | .mk o m u t :: [], x, v :: vs, d, e, s, h => by
  show fixs lk (.mk o m u t :: x :: []) (v :: vs) d e s = _
  rw [fixs, fill, fixs, fill]
  ·rfl
  ·simp
 | .mk o m u t :: z :: l, x, v :: vs, d, e, s, h => by
  show fixs lk (.mk o m u t :: z :: (l ++ [x])) (v :: vs) d e s = _
  rw [fixs, fill]
  exact fixs_eq lk (z :: l) x vs d e _ (by simpa using h)
theorem fix1_snoc : ∀ (v : List Int) (t : List Trm) (j : Nat) (x : Int) (y : Trm) (s : MSt), v[j]? = some x → t[j]? = some y → fix1 (v.take (j + 1)) t s = (((fix1 (v.take j) t s).fresh.bind [x] [(fix1 (v.take j) t s).regs]).put ⟨7, (fix1 (v.take j) t s).regs, y.n, 0, []⟩)
 | [], t, j, x, y, s, hx, hy => by simp at hx
 | v :: vs, [], j, x, y, s, hx, hy => by simp at hy
 | v :: vs, z :: t, 0, x, y, s, hx, hy => by
  simp only [List.getElem?_cons_zero, Option.some.injEq] at hx hy
  subst hx hy
  have h0 : ∀ (l : List Trm) (s : MSt), fix1 [] l s = s := fun l s => by rw [fix1]; simp
  rw [List.take_succ_cons, List.take_zero, List.take_zero, fix1, h0, h0]
 | v :: vs, z :: t, j + 1, x, y, s, hx, hy => by
  rw [List.take_succ_cons, List.take_succ_cons, fix1, fix1]
  exact fix1_snoc vs t j x y _ (by simpa using hx) (by simpa using hy)
theorem fill_snoc (lk : List (Int × Int) → Int → Int) : ∀ (v : List Int) (t : List Trm) (j : Nat) (x : Int) (y : Trm) (s : MSt), v[j]? = some x → t[j]? = some y → fill lk (v.take (j + 1)) t s = ((allT lk y.t (fill lk (v.take j) t s)).2.put ⟨8, 0, lk (allT lk y.t (fill lk (v.take j) t s)).2.vars x, 0, (allT lk y.t (fill lk (v.take j) t s)).1⟩)
 | [], t, j, x, y, s, hx, hy => by simp at hx
 | v :: vs, [], j, x, y, s, hx, hy => by simp at hy
 | v :: vs, z :: t, 0, x, y, s, hx, hy => by
  simp only [List.getElem?_cons_zero, Option.some.injEq] at hx hy
  subst hx hy
  have h0 : ∀ (l : List Trm) (s : MSt), fill lk [] l s = s := fun l s => by rw [fill]; simp
  rw [List.take_succ_cons, List.take_zero, List.take_zero, fill, h0, h0]
 | v :: vs, z :: t, j + 1, x, y, s, hx, hy => by
  rw [List.take_succ_cons, List.take_succ_cons, fill, fill]
  exact fill_snoc lk vs t j x y _ (by simpa using hx) (by simpa using hy)
theorem fill_take (lk : List (Int × Int) → Int → Int) : ∀ (v : List Int) (t : List Trm) (s : MSt), fill lk v (t.take v.length) s = fill lk v t s
 | [], t, s => by rw [fill, fill] <;> simp
 | v :: vs, [], s => by simp
 | v :: vs, z :: t, s => by
  rw [List.length_cons, List.take_succ_cons, fill, fill]
  exact fill_take lk vs t _
theorem Room.fill {lk : List (Int × Int) → Int → Int} (hl : LkOk lk) : ∀ (v : List Int) (t : List Trm) {s : MSt} {k : Nat}, Room s (k + (6 * Trm.allL t - 5 * t.length)) → Room (fill lk v t s) k
 | [], t, s, k, h => by rw [Mk.fill]; exact h.mono (by omega); simp
 | v :: vs, [], s, k, h => by rw [Mk.fill]; exact h.mono (by omega); simp
 | v :: vs, .mk o m w t :: l, s, k, h => by
  have hk := Trm.allL_length l
  rw [Trm.allL, Trm.all] at h
  simp only [List.length_cons] at h
  rw [Mk.fill]
  refine Room.fill hl vs l (Room.put (Room.allT hl t s (k + (6 * Trm.allL l - 5 * l.length) + 1) (h.mono (by omega))).1 _)
end Mk
end
end Go.Proofs.YtigkhmppnnljiaaGreatDoor

/-
  What the proofs lean on: MkLaw, FCheck, Sols, ChkA.
-/
import Derived.Deep.LoopGhost
import Derived.Laws.BitsAllLaws
import Derived.Deep.OwnRows
import Derived.Deep.RegionLaw
import Derived.Deep.AppendLies
import Derived.Test.YtigkhmppnnljiaaGreatDoorShiftA02
import Derived.Test.YtigkhmppnnljiaaGreatDoorShiftA07
import Derived.Test.YtigkhmppnnljiaaGreatDoorShiftA09
import Derived.Test.YtigkhmppnnljiaaGreatDoorShiftA13
import Derived.Test.YtigkhmppnnljiaaGreatDoorShiftA14
import Derived.Test.YtigkhmppnnljiaaGreatDoorShiftA15
namespace Go.Proofs.YtigkhmppnnljiaaGreatDoor

namespace Trm
theorem addV_nil (S : Int → Bool) : addV S [] = S := by funext x; simp [addV]
theorem addV_append (S : Int → Bool) (a b : List Int) : addV S (a ++ b) = addV (addV S a) b := by funext x; simp [addV, Bool.or_assoc]
theorem newB_append (a b : List Int) : ∀ S : Int → Bool, newB S (a ++ b) = (newB S a && newB (addV S a) b) := by
  induction a with
  | nil => intro S; simp [newB, addV_nil]
  | cons x a ih => intro S; simp [newB, ih, Bool.and_assoc, ← addV_append]
theorem newB_iff : ∀ (l : List Int) (S : Int → Bool), newB S l = true ↔ (∀ x ∈ l, 0 ≤ x ∧ x ≤ 1000000 ∧ S x = false) ∧ l.Nodup := by
  intro l
  induction l with
  | nil => intro S; simp [newB]
  | cons x l ih =>
    intro S
    rw [newB, Bool.and_eq_true, ih]
    simp only [Bool.and_eq_true, decide_eq_true_eq, Bool.not_eq_true', List.mem_cons, forall_eq_or_imp, List.nodup_cons, addV, Bool.or_eq_false_iff, List.contains_eq_mem, List.not_mem_nil, or_false, decide_eq_false_iff_not]
    constructor
    · rintro ⟨⟨h1, h2, h3⟩, h4, h5⟩
      exact ⟨⟨⟨h1, h2, h3⟩, fun y hy => ⟨(h4 y hy).1, (h4 y hy).2.1, (h4 y hy).2.2.1⟩⟩, fun hx => (h4 x hx).2.2.2 rfl, h5⟩
    · rintro ⟨⟨⟨h1, h2, h3⟩, h4⟩, h5, h6⟩
      exact ⟨⟨h1, h2, h3⟩, fun y hy => ⟨(h4 y hy).1, (h4 y hy).2.1, (h4 y hy).2.2, fun e => h5 (e ▸ hy)⟩, h6⟩
theorem newB_perm {a b : List Int} (h : a.Perm b) (S : Int → Bool) : newB S a = newB S b := by
  rw [Bool.eq_iff_iff, newB_iff, newB_iff]
  exact ⟨fun ⟨h1, h2⟩ => ⟨fun x hx => h1 x (h.mem_iff.2 hx), h.nodup_iff.1 h2⟩, fun ⟨h1, h2⟩ => ⟨fun x hx => h1 x (h.mem_iff.1 hx), h.nodup_iff.2 h2⟩⟩
theorem addV_perm {a b : List Int} (h : a.Perm b) (S : Int → Bool) : addV S a = addV S b := by
  funext x
  rw [Bool.eq_iff_iff]
  simp [addV, h.mem_iff]
theorem nodup_short : ∀ (N : Nat) (l : List Int), l.Nodup → (∀ x ∈ l, 0 ≤ x ∧ x < N) → l.length ≤ N
  | 0, l, _, h => by
    cases l with
    | nil => simp
    | cons x l => have := h x (by simp); omega
  | N + 1, l, hd, h => by
    have h1 := nodup_short N (l.erase (N : Int)) (hd.erase _) (fun x hx => by
      have := (hd.mem_erase_iff).1 hx
      have := h x this.2
      omega)
    have := List.le_length_erase (a := (N : Int)) (l := l)
    omega
theorem newB_short {S : Int → Bool} {l : List Int} (h : newB S l = true) : l.length ≤ 1000001 := by
  obtain ⟨h1, h2⟩ := (newB_iff l S).1 h
  exact nodup_short 1000001 l h2 fun x hx => by have := h1 x hx; omega
theorem all_pos : ∀ x : Trm, 1 ≤ x.all
  | mk _ _ _ t => by rw [all]; omega
theorem allL_length : ∀ l : List Trm, l.length ≤ allL l
  | [] => Nat.le_refl _
  | x :: l => by have := allL_length l; have := all_pos x; rw [allL, List.length_cons]; omega
end Trm

namespace Mk
theorem lkL_snoc (l : List (Int × Int)) (v r x : Int) : lkL (l ++ [(v, r)]) x = if x = v then r else lkL l x := by
  induction l with
  | nil => simp [lkL, eq_comm]
  | cons p l ih =>
    rw [List.cons_append, lkL, ih, lkL]
    by_cases h : x = v
    · subst h; simp
    · have hv : (v == x) = false := by simpa using Ne.symm h
      have e : (l ++ [(v, r)]).any (fun q => q.1 == x) = l.any (fun q => q.1 == x) := by rw [List.any_append]; simp [hv]
      rw [e]; simp [h]
/-- A look-up that gives a register of the list, or nought. -/
def LkOk (lk : List (Int × Int) → Int → Int) : Prop := ∀ l v, lk l v = 0 ∨ ∃ p ∈ l, lk l v = p.2
theorem lkL_ok : LkOk lkL := by
  intro l v
  induction l with
  | nil => exact .inl rfl
  | cons p l ih =>
    rw [lkL]
    split
    · rcases ih with h | ⟨q, hq, h⟩
      · exact .inl h
      · exact .inr ⟨q, by simp [hq], h⟩
    · split
      · exact .inr ⟨p, by simp, rfl⟩
      · exact .inl rfl
/-- There is room for so many instructions, registers, variables; registers are small. -/
def Room (s : MSt) (k : Nat) : Prop := s.code.length + k ≤ 900000 ∧ 0 ≤ s.regs ∧ s.regs + k ≤ 1900000 ∧ (∀ p ∈ s.vars, 0 ≤ p.2 ∧ p.2 ≤ 1900000) ∧ s.vars.length + k ≤ 1900000
theorem Room.mono {s : MSt} {k k' : Nat} (h : Room s k) (hk : k' ≤ k) : Room s k' := ⟨by have := h.1; omega, h.2.1, by have := h.2.2.1; omega, h.2.2.2.1, by have := h.2.2.2.2; omega⟩
theorem Room.put {s : MSt} {k : Nat} (h : Room s (k + 1)) (x : Ins) : Room (s.put x) k := ⟨by have := h.1; simp [MSt.put]; omega, h.2.1, by have := h.2.2.1; simp only [MSt.put]; omega, h.2.2.2.1, by have := h.2.2.2.2; simp only [MSt.put]; omega⟩
theorem Room.fresh {s : MSt} {k : Nat} (h : Room s (k + 1)) : Room s.fresh k := ⟨by have := h.1; simp only [MSt.fresh]; omega, by have := h.2.1; simp only [MSt.fresh]; omega, by have := h.2.2.1; simp only [MSt.fresh]; omega, h.2.2.2.1, by have := h.2.2.2.2; simp only [MSt.fresh]; omega⟩
theorem Room.setA {s : MSt} {k : Nat} (h : Room s k) (j : Nat) (a : Int) : Room (s.setA j a) k := ⟨by simpa [MSt.setA] using h.1, h.2⟩
theorem Room.setB {s : MSt} {k : Nat} (h : Room s k) (j : Nat) (a : Int) : Room (s.setB j a) k := ⟨by simpa [MSt.setB] using h.1, h.2⟩
theorem Room.bind {s : MSt} {k : Nat} (v rs : List Int) (h : Room s (k + rs.length)) (hr : ∀ x ∈ rs, 0 ≤ x ∧ x ≤ 1900000) : Room (s.bind v rs) k := ⟨by have := h.1; simp only [MSt.bind]; omega, h.2.1, by have := h.2.2.1; simp only [MSt.bind]; omega, fun p hp => by
  rcases List.mem_append.1 hp with hp | hp
  · exact h.2.2.2.1 p hp
  · exact hr _ (List.of_mem_zip hp).2, by have := h.2.2.2.2; simp only [MSt.bind, List.length_append, List.length_zip]; omega⟩
theorem Room.lk {lk : List (Int × Int) → Int → Int} (hl : LkOk lk) {s : MSt} {k : Nat} (h : Room s k) (v : Int) : 0 ≤ lk s.vars v ∧ lk s.vars v ≤ 1900000 := by
  rcases hl s.vars v with h' | ⟨p, hp, h'⟩
  · rw [h']; omega
  · rw [h']; exact h.2.2.2.1 p hp
theorem Room.ite {c : Prop} [Decidable c] {a b : MSt} {k : Nat} (ha : Room a k) (hb : Room b k) : Room (if c then a else b) k := by split <;> assumption
theorem Room.strict {s : MSt} {k : Nat} (h : Room s (k + 2)) (op n d : Int) (l : List Int) : Room (strict op n d l s) k := by
  have h1 : ∀ x, Room (s.put x) k := fun x => Room.mono (k := k + 1) (Room.put (k := k + 1) h x) (by omega)
  unfold Mk.strict
  repeat' (refine Room.ite ?_ ?_)
  all_goals first | exact h1 _ | exact Room.put (k := k) (Room.put (k := k + 1) h _) _ | exact Room.mono (k := k + 2) h (by omega)
theorem Room.ended {s : MSt} {k : Nat} (h : Room s (k + 1)) (op n : Int) (l : List Int) : Room (ended op n l s) k := by
  unfold Mk.ended
  repeat' (refine Room.ite ?_ ?_)
  all_goals exact h.put _
theorem Room.fix1 : ∀ (v : List Int) (t : List Trm) {s : MSt} {k : Nat}, Room s (k + 3 * t.length) → Room (fix1 v t s) k
  | [], t, s, k, h => by
    rw [Mk.fix1]
    · exact h.mono (by omega)
    · simp
  | v :: vs, [], s, k, h => by
    rw [Mk.fix1]
    · exact h.mono (by omega)
    · simp
  | v :: vs, x :: l, s, k, h => by
    rw [Mk.fix1]
    simp only [List.length_cons] at h
    refine Room.fix1 vs l ?_
    have h2 : Room s (k + 3 * l.length + 1 + 1 + 1) := h.mono (by omega)
    refine (Room.bind [v] [s.regs] h2.fresh fun x hx => ?_).put _
    rw [List.mem_singleton.1 hx]
    have := h2.2.1
    have := h2.2.2.1
    omega
theorem Room.thens {f g : Int → Bool → MSt → MSt} {cf cg : Nat} (hf : ∀ (d : Int) (e : Bool) (s : MSt) (k : Nat), Room s (k + cf) → Room (f d e s) k) (hg : ∀ (d : Int) (e : Bool) (s : MSt) (k : Nat), Room s (k + cg) → Room (g d e s) k)
    (c d : Int) (e : Bool) {s : MSt} {k : Nat} (h : Room s (k + 2 + cf + cg)) : Room (thens f g c d e s) k := by
  have h1 := hf d e _ (k + cg + 1) (Room.put (h.mono (k' := k + cg + 1 + cf + 1) (by omega)) ⟨16, 0, c, 0, []⟩)
  unfold Mk.thens
  dsimp only
  cases e with
  | true => exact hg _ _ _ _ (Room.setB (h1.mono (by omega)) _ _)
  | false => exact Room.setA (hg _ _ _ _ (Room.setB (Room.put (h1.mono (by omega)) _) _ _)) _ _

theorem Room.had {lk : List (Int × Int) → Int → Int} (hl : LkOk lk) (x : Trm) (hx : ∀ (d : Int) (e : Bool) (s : MSt) (k : Nat), Room s (k + (6 * x.all - 2)) → Room (into lk x d e s) k) {s : MSt} {k : Nat} (h : Room s (k + (6 * x.all - 1))) :
    Room (hadW lk x.op x.n (into lk x) s).2 k ∧ 0 ≤ (hadW lk x.op x.n (into lk x) s).1 ∧ (hadW lk x.op x.n (into lk x) s).1 ≤ 1900000 := by
  have := x.all_pos
  unfold hadW
  split
  · exact ⟨h.mono (by omega), h.lk hl _⟩
  · refine ⟨hx _ _ _ _ (Room.fresh (h.mono (by omega))), h.2.1, by have := h.2.2.1; omega⟩
mutual
theorem Room.into {lk : List (Int × Int) → Int → Int} (hl : LkOk lk) : ∀ (x : Trm) (d : Int) (e : Bool) (s : MSt) (k : Nat), Room s (k + (6 * x.all - 2)) → Room (into lk x d e s) k
  | .mk op n v t, d, e, s, k, h => by
    rw [Trm.all] at h
    rw [Mk.into]
    split
    · exact Room.choice hl t d e s k (h.mono (by omega))
    split
    · exact Room.seqs hl t d e s k (h.mono (by omega))
    split
    · exact Room.lets hl t v [] d e s k (h.mono (by simp only [List.length_nil]; omega)) (by simp)
    split
    · have hk := Trm.allL_length t
      exact Room.fixs hl t v d e _ k (Room.fix1 v t (h.mono (by omega)))
    split
    · split
      · exact Room.ended (Room.allT hl t s (k + 1) (h.mono (by omega))).1 _ _ _
      · split
        · exact Room.put (h.mono (by omega)) _
        · exact Room.put (Room.strict (Room.allT hl t s.fresh (k + 3) (Room.fresh (h.mono (by omega)))).1 _ _ _ _) _
    · split
      · exact Room.put (h.mono (by omega)) _
      · exact Room.strict (Room.allT hl t s (k + 2) (h.mono (by omega))).1 _ _ _ _
theorem Room.choice {lk : List (Int × Int) → Int → Int} (hl : LkOk lk) : ∀ (l : List Trm) (d : Int) (e : Bool) (s : MSt) (k : Nat), Room s (k + 2 + 6 * Trm.allL l) → Room (choice lk l d e s) k
  | [a, b, x], d, e, s, k, h => by
    simp only [Trm.allL] at h
    rw [Mk.choice]
    have := a.all_pos
    have := b.all_pos
    have := x.all_pos
    exact Room.thens (cf := 6 * b.all - 2) (cg := 6 * x.all - 2) (fun d e s k h => Room.into hl b d e s k h) (fun d e s k h => Room.into hl x d e s k h) _ _ _ (Room.had hl a (Room.into hl a) (h.mono (by omega))).1
  | [], _, _, _, _, h => by rw [Mk.choice]; exact h.mono (by omega); all_goals simp
  | [_], _, _, _, _, h => by rw [Mk.choice]; exact h.mono (by omega); all_goals simp
  | [_, _], _, _, _, _, h => by rw [Mk.choice]; exact h.mono (by omega); all_goals simp
  | _ :: _ :: _ :: _ :: _, _, _, _, _, h => by rw [Mk.choice]; exact h.mono (by omega); all_goals simp
theorem Room.allT {lk : List (Int × Int) → Int → Int} (hl : LkOk lk) : ∀ (l : List Trm) (s : MSt) (k : Nat), Room s (k + 6 * Trm.allL l) → Room (allT lk l s).2 k ∧ ∀ x ∈ (allT lk l s).1, 0 ≤ x ∧ x ≤ 1900000
  | [], s, k, h => by rw [Mk.allT]; exact ⟨h, by simp⟩
  | x :: l, s, k, h => by
    simp only [Trm.allL] at h
    rw [Mk.allT]
    have h1 := Room.had hl x (Room.into hl x) (h.mono (k' := k + 6 * Trm.allL l + (6 * x.all - 1)) (by omega))
    have h2 := Room.allT hl l _ k h1.1
    refine ⟨h2.1, fun y hy => ?_⟩
    rcases List.mem_cons.1 hy with rfl | hy
    · exact h1.2
    · exact h2.2 y hy
theorem Room.seqs {lk : List (Int × Int) → Int → Int} (hl : LkOk lk) : ∀ (l : List Trm) (d : Int) (e : Bool) (s : MSt) (k : Nat), Room s (k + 6 * Trm.allL l) → Room (seqs lk l d e s) k
  | [], _, _, _, _, h => by rw [Mk.seqs]; exact h
  | [x], d, e, s, k, h => by
    simp only [Trm.allL] at h
    rw [Mk.seqs]
    exact Room.into hl x d e s k (h.mono (by omega))
  | x :: y :: l, d, e, s, k, h => by
    rw [Trm.allL] at h
    rw [Mk.seqs]
    exact Room.seqs hl (y :: l) d e _ k (Room.had hl x (Room.into hl x) (h.mono (by omega))).1
theorem Room.lets {lk : List (Int × Int) → Int → Int} (hl : LkOk lk) : ∀ (l : List Trm) (v rs : List Int) (d : Int) (e : Bool) (s : MSt) (k : Nat), Room s (k + 6 * Trm.allL l + rs.length) → (∀ x ∈ rs, 0 ≤ x ∧ x ≤ 1900000) → Room (lets lk l v rs d e s) k
  | [], _, _, _, _, _, _, h, _ => by rw [Mk.lets]; exact h.mono (by omega)
  | [x], v, rs, d, e, s, k, h, hr => by
    simp only [Trm.allL] at h
    rw [Mk.lets]
    exact Room.into hl x d e _ k (Room.bind v rs (h.mono (by omega)) hr)
  | x :: y :: l, v, rs, d, e, s, k, h, hr => by
    rw [Trm.allL] at h
    rw [Mk.lets]
    have := x.all_pos
    have h1 := Room.had hl x (Room.into hl x) (h.mono (k' := k + 6 * Trm.allL (y :: l) + (rs.length + 1) + (6 * x.all - 1)) (by omega))
    refine Room.lets hl (y :: l) v _ d e _ k (h1.1.mono (by simp)) fun z hz => ?_
    rcases List.mem_append.1 hz with hz | hz
    · exact hr z hz
    · rw [List.mem_singleton.1 hz]; exact h1.2
theorem Room.fixs {lk : List (Int × Int) → Int → Int} (hl : LkOk lk) : ∀ (l : List Trm) (v : List Int) (d : Int) (e : Bool) (s : MSt) (k : Nat), Room s (k + (6 * Trm.allL l - 5 * (l.length - 1))) → Room (fixs lk l v d e s) k
  | [], _, _, _, _, _, h => by rw [Mk.fixs]; exact h.mono (by simp)
  | [x], v, d, e, s, k, h => by
    simp only [Trm.allL, List.length_cons, List.length_nil] at h
    rw [Mk.fixs]
    exact Room.into hl x d e s k (h.mono (by omega))
  | .mk o m w t :: y :: l, v, d, e, s, k, h => by
    have hk := Trm.allL_length (y :: l)
    rw [Trm.allL, Trm.all] at h
    simp only [List.length_cons] at h hk
    rw [Mk.fixs]
    have h1 := Room.allT hl t s (k + (6 * Trm.allL (y :: l) - 5 * (l.length + 1 - 1)) + 1) (h.mono (by omega))
    exact Room.fixs hl (y :: l) v.tail d e _ k (Room.put h1.1 _)
end
end Mk
end Go.Proofs.YtigkhmppnnljiaaGreatDoor

namespace Go.Proofs.YtigkhmppnnljiaaGreatDoor
open Go.RowKit

theorem dright_to' (x : Dat) (v : Value) (B : Nat) (w : World) (r : Bool) (hr : Dat.right x 0 = r) (hv : RepD w B x v) (hB : B ≤ w.heap.size) :
    Calls Tryz.prog 31 #[v] w fun e w' => e = .returned (.bool r) ∧ Below w.heap.size w w' := by
  rw [← hr]; exact dright_any x v B w hv hB

set_option maxHeartbeats 1000000 in
theorem check1_to (x : Dat) (v : Value) (B : Nat) (w : World) (hv : RepD w B x v) (hB : B ≤ w.heap.size) :
    Calls Tryz.prog 30 #[v] w fun e w' => e = .returned (.bool (!Dat.right x 0)) ∧ Below w.heap.size w w' := by
  obtain ⟨k, n, d, s, o, len, cap, rfl⟩ := agg_of hv
  obtain ⟨r, hr⟩ : ∃ r, Dat.right x 0 = r := ⟨_, rfl⟩
  rw [hr]
  have HC := Lib.hid (fun X => dright_to' x _ B (w.alloc X) r hr (hv.kept ((Below.one w X).mono hB)) (by simp; omega))
  clear hr hv
  go_enter Tryz.func30, Tryz.ntmps30
  go_wp2_with fail
  refine (HC.out _).mono ?_
  rintro e w1 ⟨rfl, hb1⟩
  go_wp2_with fail
  go_ret
  exact ⟨rfl, one_below hb1⟩

set_option maxHeartbeats 1000000 in
set_option maxRecDepth 100000 in
theorem check2_to (x : Ins) (c0 c1 c2 c3 c4 : Value) (args regs : Int) (rest : Bool) (oc oa ok op : Option Addr) (lc cc la ca lk ck lp cp : Nat) (B pb ub : Nat) (w : World) (hx : InsR w B x [c0, c1, c2, c3, c4]) (hB : B ≤ w.heap.size)
    (hp : BoxL w pb 31 [.int .i64 args, .bool rest, .int .i64 regs, .slice oc lc cc, .slice oa la ca]) (hu : BoxL w ub 25 [.slice ok lk ck, .slice op lp cp]) :
    Calls Tryz.prog 33 #[.agg #[c0, c1, c2, c3, c4], .pointer (some ⟨pb, 0, none⟩), .pointer (some ⟨ub, 0, none⟩)] w fun e w' => e = .returned (.bool (!Unt.fits x regs lc lp lk)) ∧ Below w.heap.size w w' := by
  obtain ⟨k, d, a, b, l⟩ := x
  obtain ⟨sl, he, _, _, ha, _, hl⟩ := hx
  simp only [List.cons.injEq, and_true] at he
  obtain ⟨rfl, rfl, rfl, rfl, rfl⟩ := he
  obtain ⟨o, len, cap, rfl⟩ := hl.form
  obtain ⟨r, hr⟩ : ∃ r, Unt.fits ⟨k, d, a, b, l⟩ regs lc lp lk = r := ⟨_, rfl⟩
  rw [hr]
  have HC := Lib.hid (fun X => fits_any k d a b l o len cap args regs rest oc oa ok op lc cc la ca lk ck lp cp B (w.alloc X) ha (hl.kept ((Below.one w X).mono hB) fun _ _ _ h => h) (by simp; omega) r hr)
  have p0 := hp.cell 0 rfl
  have p1 := hp.cell 1 rfl
  have p2 := hp.cell 2 rfl
  have p3 := hp.cell 3 rfl
  have p4 := hp.cell 4 rfl
  have u0 := hu.cell 0 rfl
  have u1 := hu.cell 1 rfl
  have z0 := hp.lt
  have z1 := hu.lt
  dsimp only at p0 p1 p2 p3 p4 u0 u1 ha
  clear hr hl hp hu
  go_enter Tryz.func33, Tryz.ntmps33
  go_wp2_with fail
  refine (HC.out _).mono ?_
  rintro e w1 ⟨rfl, hb1⟩
  go_wp2_with fail
  go_ret
  exact ⟨rfl, one_below hb1⟩

theorem procsB_step {nk np : Int} {l : List Proc} {j : Nat} {p : Proc} {all : Int} (h : l[j]? = some p) : Unt.procsB nk np (l.drop j) all = (Unt.headB p && (decide (all + p.code.length ≤ 50000) && (Unt.lastB (Unt.lastOp p.code) && (p.code.all (fun x => Unt.fits x p.regs p.code.length np nk) && Unt.procsB nk np (l.drop (j + 1)) (all + p.code.length))))) := by
  obtain ⟨hj, he⟩ := List.getElem?_eq_some_iff.1 h
  rw [List.drop_eq_getElem_cons hj, he, Unt.procsB]
theorem err_no {u : Unt} (h : u.okB = false) : u.err = 5 := by simp [Unt.err, h]
theorem err_ok {u : Unt} (h : u.okB = true) : u.err = 0 := by simp [Unt.err, h]
theorem lastOp_at {l : List Ins} {x : Ins} {n : Nat} (hn : n = l.length) (hx : l[n - 1]? = some x) : Unt.lastOp l = x.op := by
  subst hn
  rw [Unt.lastOp, List.getLast?_eq_getElem?, hx]

set_option maxHeartbeats 8000000 in
set_option maxRecDepth 100000 in
theorem fcheck_any (u : Unt) (v : Value) (B : Nat) (w : World) (hv : UntR w B u v) (hB : B ≤ w.heap.size) :
    Calls Tryz.prog 12 #[v] w fun e w' => e = .returned (.int .i64 u.err) ∧ Below w.heap.size w w' := by
  obtain ⟨cv, pv, rfl, hc, hp⟩ := hv
  obtain ⟨E, hE⟩ : ∃ E, u.err = E := ⟨_, rfl⟩
  rw [hE]
  obtain ⟨op, np, cp, rfl, hnp, hcapp, hmaxp⟩ := hp.slice
  have HCS := Lib.hid hc
  obtain ⟨ok, nk, ck, rfl, hnk, hcapk, hmaxk, _⟩ := hc
  have HP := Lib.hid hp
  have HE := Lib.hid hE
  have HNP := Lib.hid hnp
  have HNK := Lib.hid hnk
  clear hp hE hnp hnk
  have HNO := Lib.hid (show (∀ h : u.okB = false, E = 5) from fun h => by rw [← HE.out, err_no h])
  by_cases c1 : np < 1
  · obtain rfl : E = 5 := HNO.out (by rw [Unt.okB, ← HNP.out]; simp; omega)
    obtain rfl : np = 0 := by omega
    go_enter Tryz.func12, Tryz.ntmps12
    go_wp2_with fail
    go_ret
    exact ⟨rfl, Below.one _ _⟩
  by_cases c2 : 1000 < np
  · obtain rfl : E = 5 := HNO.out (by rw [Unt.okB, ← HNP.out]; simp; omega)
    go_enter Tryz.func12, Tryz.ntmps12
    go_wp2_with fail
    go_ret
    exact ⟨rfl, Below.one _ _⟩
  obtain ⟨rc, hrc⟩ : ∃ rc, u.consts.any (fun x => !Dat.right x 0) = rc := ⟨_, rfl⟩
  have HRC := Lib.hid hrc
  have HC := Lib.hid (fun X => containsFunc_S 30 #[] (fun x => !Dat.right x 0) rc u.consts (.slice ok nk ck) B (w.alloc X) (HCS.out.kept ((Below.one w X).mono hB)) (by simp; omega) (fun _ _ => rfl) (fun x _ v W hr hbW => by
    exact check1_to x v B W hr (by have := hbW.size; simp at this; omega)) HRC.out)
  clear hrc
  have c1' : ¬ (np : Int) < 1 := by omega
  have HB0 := Lib.hid (Below.refl (w.heap.size + 1) (w.alloc (.cells #[.slice ok nk ck, .slice op np cp] 25)))
  go_enter Tryz.func12, Tryz.ntmps12
  go_wp2_with fail
  refine (HC.out _).mono ?_
  rintro e w1 ⟨rfl, hb1⟩
  have HB1 := Lib.hid (HB0.out.trans (hb1.mono (by simp)))
  clear hb1 HC
  cases rc with
  | true =>
    obtain rfl : E = 5 := HNO.out (by
      have h1 := HRC.out
      rw [← List.not_all_eq_any_not] at h1
      have h2 : u.consts.all (fun x => Dat.right x 0) = false := by simpa using h1
      rw [Unt.okB, h2]; simp)
    go_wp2_with fail
    go_ret
    exact ⟨rfl, (Below.one w _).trans (HB1.out.mono (by omega))⟩
  | false =>
    have HOK := Lib.hid (show u.okB = Unt.procsB nk np u.procs 0 from by
      have h1 := HRC.out
      rw [← List.not_all_eq_any_not] at h1
      have h2 : u.consts.all (fun x => Dat.right x 0) = true := by simpa using h1
      rw [Unt.okB, h2, ← HNP.out, ← HNK.out, decide_eq_true (show 1 ≤ (np : Int) by omega), decide_eq_true (show (np : Int) ≤ 1000 by omega)]; simp)
    have bu1 : BoxL w1 w.heap.size 25 [.slice ok nk ck, .slice op np cp] := (HB1.out.block _ (by omega)).trans (BoxL.new rfl _ _)
    have q1 := bu1.cell 1 rfl
    have hlt1 := bu1.lt
    clear bu1
    go_wp2_with fail
    go_loopg [3, 26] np (fun g a i wr => ∃ (j : Nat) (all : Int), g = np - j ∧ j ≤ np ∧ a = .int .i64 all ∧ i = .int .i64 j ∧ 0 ≤ all ∧ all ≤ 50000 ∧ Hid (Unt.procsB nk np u.procs 0 = Unt.procsB nk np (u.procs.drop j) all) ∧ Hid (Below (w.heap.size + 1) (w.alloc (.cells #[.slice ok nk ck, .slice op np cp] 25)) wr))
    case atStart => exact ⟨0, 0, rfl, by omega, rfl, rfl, by omega, by omega, rfl, HB1⟩
    case round =>
      obtain ⟨j, all, rfl, hj, rfl, rfl, ha0, ha1, HS, HB⟩ := hrel
      have bu : BoxL wr w.heap.size 25 [.slice ok nk ck, .slice op np cp] := (HB.out.block _ (by omega)).trans (BoxL.new rfl _ _)
      have hlt := bu.lt
      have HBU := Lib.hid bu
      have HBW := Lib.hid (show Below w.heap.size w wr from (Below.one w _).trans (HB.out.mono (by omega)))
      clear bu q1
      by_cases hjl : j < np
      · obtain ⟨p, hx⟩ : ∃ p, u.procs[j]? = some p := ⟨_, List.getElem?_eq_getElem (by rw [← HNP.out]; exact hjl)⟩
        obtain ⟨b1, off1, cs, ho1, hbB, hcl, hcell, hpr⟩ := HP.out.at (HBW.out.mono hB) hx
        subst ho1
        have HSTEP := Lib.hid (HS.out.trans (procsB_step hx))
        obtain ⟨args, rest, regs, code, alive⟩ := p
        obtain ⟨sl, al, rfl, hbargs, hbregs, hcode, halive⟩ := hpr
        obtain ⟨oc, n, cc, rfl, hn, hcapc, hmaxc⟩ := hcode.slice
        obtain ⟨oa, la, ca, rfl⟩ := halive.form
        dsimp only at hn hbargs hbregs HSTEP hcode
        have e0 := hcell 0 _ rfl
        have e1 := hcell 1 _ rfl
        have e2 := hcell 2 _ rfl
        have e3 := hcell 3 _ rfl
        have e4 := hcell 4 _ rfl
        rw [Nat.add_zero] at e0
        have HN := Lib.hid hn
        have HCODE := Lib.hid hcode
        have HBN := Lib.hid (fun X => (Below.one wr X))
        clear hx hcell hcl hcode halive hn
        have HEND := Lib.hid (show (∀ h : Unt.procsB nk np (u.procs.drop j) all = false, E = 5) from fun h => HNO.out (by rw [HOK.out, HS.out]; exact h))
        have HEND2 := Lib.hid (show (∀ h : Unt.headB ⟨args, rest, regs, code, alive⟩ = false, E = 5) from fun h => HNO.out (by rw [HOK.out, HSTEP.out, h]; rfl))
        have HLN := Lib.hid (show (code.length : Int) = n from by rw [HN.out])
        by_cases h1 : args < 0
        · obtain rfl : E = 5 := HEND2.out (by simp [Unt.headB, h1])
          go_wp2_with fail
          go_ret
          exact ⟨rfl, HBW.out.alloc (by have := HBW.out.size; omega) _⟩
        by_cases h2 : regs < args
        · obtain rfl : E = 5 := HEND2.out (by simp [Unt.headB, h2])
          go_wp2_with fail
          go_ret
          exact ⟨rfl, HBW.out.alloc (by have := HBW.out.size; omega) _⟩
        by_cases h3 : 20000 < regs
        · obtain rfl : E = 5 := HEND2.out (by simp [Unt.headB, h3])
          go_wp2_with fail
          go_ret
          exact ⟨rfl, HBW.out.alloc (by have := HBW.out.size; omega) _⟩
        by_cases h4 : rest = true ∧ args = 0
        · obtain ⟨rfl, rfl⟩ := h4
          obtain rfl : E = 5 := HEND2.out (by simp [Unt.headB])
          go_wp2_with fail
          go_ret
          exact ⟨rfl, HBW.out.alloc (by have := HBW.out.size; omega) _⟩
        by_cases h5 : n = 0
        · subst h5
          obtain rfl : E = 5 := HEND2.out (by have := HLN.out; simp [Unt.headB, this])
          cases rest with
          | true =>
            have h4' : (args == 0) = false := by simpa using fun h => h4 ⟨rfl, h⟩
            go_wp2_with fail
            go_ret
            exact ⟨rfl, HBW.out.alloc (by have := HBW.out.size; omega) _⟩
          | false =>
            go_wp2_with fail
            go_ret
            exact ⟨rfl, HBW.out.alloc (by have := HBW.out.size; omega) _⟩
        by_cases h6 : 50000 < n
        · obtain rfl : E = 5 := HEND2.out (by have := HLN.out; simp [Unt.headB, this]; omega)
          cases rest with
          | true =>
            have h4' : (args == 0) = false := by simpa using fun h => h4 ⟨rfl, h⟩
            go_wp2_with fail
            go_ret
            exact ⟨rfl, HBW.out.alloc (by have := HBW.out.size; omega) _⟩
          | false =>
            go_wp2_with fail
            go_ret
            exact ⟨rfl, HBW.out.alloc (by have := HBW.out.size; omega) _⟩
        have HH := Lib.hid (show Unt.headB ⟨args, rest, regs, code, alive⟩ = true from by
          have h7 := HLN.out
          have h8 : ¬ (code.length : Int) = 0 := by omega
          have h9 : ¬ (50000 : Int) < code.length := by omega
          have hra : (rest && decide (args = 0)) = false := by cases rest <;> simp; intro h; exact h4 ⟨rfl, h⟩
          simp only [Unt.headB, decide_eq_false h1, decide_eq_false h2, decide_eq_false h3, decide_eq_false h8, decide_eq_false h9, hra]; rfl)
        have d1 : decide (args < 0) = false := decide_eq_false h1
        have d2 : decide (regs < args) = false := decide_eq_false h2
        have d3 : decide (20000 < regs) = false := decide_eq_false h3
        have d5 : ((n : Int) == 0) = false := by simpa using h5
        have d6 : decide ((50000 : Int) < (n : Int)) = false := decide_eq_false (by omega)
        obtain ⟨x, hx⟩ : ∃ x, code[n - 1]? = some x := ⟨_, List.getElem?_eq_getElem (by rw [← HN.out]; omega)⟩
        obtain ⟨bc, offc, ds, hoc, hbc, hdl, hdcell, hins⟩ := HCODE.out.at (HBW.out.mono hB) hx
        subst hoc
        obtain ⟨kk, dd, aa, bb, ll⟩ := x
        obtain ⟨sl, rfl, hbk, _, _, _, _⟩ := hins
        have k0 := hdcell 0 _ rfl
        rw [Nat.add_zero] at k0
        dsimp only at k0 hbk
        have HLO := Lib.hid (show Unt.lastOp code = kk from lastOp_at HN.out hx)
        have hkl := cell_lt k0
        have hnpos : 0 < n := by omega
        clear hx hdcell hdl
        have HEND3 := Lib.hid (show (∀ h : (decide (all + n ≤ 50000) && (Unt.lastB kk)) = false, E = 5) from fun h => HNO.out (by
          rw [HOK.out, HSTEP.out, HLN.out, HLO.out, HH.out]
          rcases Bool.and_eq_false_iff.1 h with h | h <;> rw [h] <;> simp))
        by_cases h7 : 50000 < all + n
        · obtain rfl : E = 5 := HEND3.out (by rw [decide_eq_false (by omega)]; rfl)
          have d7 : decide ((50000 : Int) < all + n) = true := decide_eq_true h7
          cases rest with
          | true =>
            have h4' : (args == 0) = false := by simpa using fun h => h4 ⟨rfl, h⟩
            go_wp2_with fail
            all_goals go_ret
            all_goals exact ⟨rfl, HBW.out.alloc (by have := HBW.out.size; omega) _⟩
          | false =>
            go_wp2_with fail
            all_goals go_ret
            all_goals exact ⟨rfl, HBW.out.alloc (by have := HBW.out.size; omega) _⟩
        have h7' : all + n ≤ 50000 := by omega
        have d7 : decide ((50000 : Int) < all + n) = false := decide_eq_false h7
        by_cases h8 : kk ≠ 15 ∧ (kk < 19 ∨ 22 < kk)
        · obtain rfl : E = 5 := HEND3.out (by rw [decide_eq_true h7']; simp [Unt.lastB]; omega)
          obtain ⟨h8a, h8b⟩ := h8
          have h8c : (kk != 15) = true := by simpa using h8a
          by_cases h8d : kk < 19
          · have h8e : decide (kk < 19) = true := decide_eq_true h8d
            cases rest with
            | true =>
              have h4' : (args == 0) = false := by simpa using fun h => h4 ⟨rfl, h⟩
              go_wp2_with fail
              all_goals go_ret
              all_goals exact ⟨rfl, HBW.out.alloc (by have := HBW.out.size; omega) _⟩
            | false =>
              go_wp2_with fail
              all_goals go_ret
              all_goals exact ⟨rfl, HBW.out.alloc (by have := HBW.out.size; omega) _⟩
          · have h8e : decide (kk < 19) = false := decide_eq_false h8d
            have h8f : decide (22 < kk) = true := decide_eq_true (by omega)
            cases rest with
            | true =>
              have h4' : (args == 0) = false := by simpa using fun h => h4 ⟨rfl, h⟩
              go_wp2_with fail
              all_goals go_ret
              all_goals exact ⟨rfl, HBW.out.alloc (by have := HBW.out.size; omega) _⟩
            | false =>
              go_wp2_with fail
              all_goals go_ret
              all_goals exact ⟨rfl, HBW.out.alloc (by have := HBW.out.size; omega) _⟩
        have HLB := Lib.hid (show Unt.lastB kk = true from by simp [Unt.lastB]; omega)
        have HW8 := Lib.hid h8
        clear h8
        obtain ⟨rf, hrf⟩ : ∃ rf, code.any (fun x => !Unt.fits x regs n np nk) = rf := ⟨_, rfl⟩
        have HRF := Lib.hid hrf
        clear hrf
        have HNEXT := Lib.hid (show (rf = true → E = 5) ∧ (rf = false → Unt.procsB nk np u.procs 0 = Unt.procsB nk np (u.procs.drop (j + 1)) (all + n)) from by
          have h1 := HRF.out
          rw [← List.not_all_eq_any_not] at h1
          have h2 := HSTEP.out
          rw [HLN.out, HLO.out, HH.out, HLB.out, decide_eq_true h7'] at h2
          constructor
          · rintro rfl
            refine HNO.out (by rw [HOK.out, h2]; simp only [Bool.not_eq_true'] at h1; rw [h1]; rfl)
          · rintro rfl
            have h3 : (code.all fun x => Unt.fits x regs n np nk) = true := by simpa using h1
            rw [h2, h3]; rfl)
        have hW1 : ∀ X, Below B w (wr.alloc X) := fun X => (HBW.out.mono hB).trans ((Below.one wr X).mono (by have := HBW.out.size; omega))
        have HCF := Lib.hid (containsG_ins (InsR w B) 33 #[.pointer (some ⟨wr.heap.size, 0, none⟩), .pointer (some ⟨w.heap.size, 0, none⟩)] (fun x => !Unt.fits x regs n np nk) rf code (.slice (some ⟨bc, offc, none⟩) n cc) B (wr.alloc (.cells [.int .i64 args, .bool rest, .int .i64 regs, .slice (some ⟨bc, offc, none⟩) n cc, .slice oa la ca].toArray 31)) (HCODE.out.kept (hW1 _) fun _ _ _ h => h) (by have := HBW.out.size; simp; omega) (fun _ _ => rfl) (fun x _ c0 c1 c2 c3 c4 W hR hbW => check2_to x c0 c1 c2 c3 c4 args regs rest (some ⟨bc, offc, none⟩) oa ok (some ⟨b1, off1, none⟩) n cc la ca nk ck np cp B wr.heap.size w.heap.size W (hR.kept ((hW1 _).trans (hbW.mono (by have := HBW.out.size; simp; omega)))) (by have := hbW.size; have := HBW.out.size; simp at *; omega) ((BoxL.new rfl _ _).keep hbW) ((HBU.out.alloc _).keep hbW)) HRF.out)
        clear hW1
        cases rest with
        | true =>
          have h4' : (args == 0) = false := by simpa using fun h => h4 ⟨rfl, h⟩
          have hk : (kk = 15) ∨ (kk ≠ 15 ∧ 19 ≤ kk ∧ kk ≤ 22) := by have := HW8.out; omega
          rcases hk with hk | ⟨hk, hk1, hk2⟩
          · have e15 : (kk != 15) = false := by simpa using hk
            clear hk
            go_wp2_with fail
            refine HCF.out.mono ?_
            rintro e w2 ⟨rfl, hb2⟩
            have HB2 := Lib.hid (one_below hb2)
            clear hb2
            cases rf with
            | true =>
              obtain rfl : E = 5 := HNEXT.out.1 rfl
              go_wp2_with fail
              go_ret
              exact ⟨rfl, Below.next HBW.out HB2.out⟩
            | false =>
              have HPN := Lib.hid (HNEXT.out.2 rfl)
              go_wp2_with fail
              go_roundg (np - (j + 1))
              case measure => omega
              case rel => exact ⟨j + 1, all + n, rfl, by omega, rfl, by go_num, by omega, by omega, HPN, Lib.hid (HB.out.trans (HB2.out.mono (by omega)))⟩
          · have e15 : (kk != 15) = true := by simpa using hk
            have e19 : decide (kk < 19) = false := decide_eq_false (by omega)
            have e22 : decide (22 < kk) = false := decide_eq_false (by omega)
            go_wp2_with fail
            refine HCF.out.mono ?_
            rintro e w2 ⟨rfl, hb2⟩
            have HB2 := Lib.hid (one_below hb2)
            clear hb2
            cases rf with
            | true =>
              obtain rfl : E = 5 := HNEXT.out.1 rfl
              go_wp2_with fail
              go_ret
              exact ⟨rfl, Below.next HBW.out HB2.out⟩
            | false =>
              have HPN := Lib.hid (HNEXT.out.2 rfl)
              go_wp2_with fail
              go_roundg (np - (j + 1))
              case measure => omega
              case rel => exact ⟨j + 1, all + n, rfl, by omega, rfl, by go_num, by omega, by omega, HPN, Lib.hid (HB.out.trans (HB2.out.mono (by omega)))⟩
        | false =>
          have hk : (kk = 15) ∨ (kk ≠ 15 ∧ 19 ≤ kk ∧ kk ≤ 22) := by have := HW8.out; omega
          rcases hk with hk | ⟨hk, hk1, hk2⟩
          · have e15 : (kk != 15) = false := by simpa using hk
            clear hk
            go_wp2_with fail
            refine HCF.out.mono ?_
            rintro e w2 ⟨rfl, hb2⟩
            have HB2 := Lib.hid (one_below hb2)
            clear hb2
            cases rf with
            | true =>
              obtain rfl : E = 5 := HNEXT.out.1 rfl
              go_wp2_with fail
              go_ret
              exact ⟨rfl, Below.next HBW.out HB2.out⟩
            | false =>
              have HPN := Lib.hid (HNEXT.out.2 rfl)
              go_wp2_with fail
              go_roundg (np - (j + 1))
              case measure => omega
              case rel => exact ⟨j + 1, all + n, rfl, by omega, rfl, by go_num, by omega, by omega, HPN, Lib.hid (HB.out.trans (HB2.out.mono (by omega)))⟩
          · have e15 : (kk != 15) = true := by simpa using hk
            have e19 : decide (kk < 19) = false := decide_eq_false (by omega)
            have e22 : decide (22 < kk) = false := decide_eq_false (by omega)
            go_wp2_with fail
            refine HCF.out.mono ?_
            rintro e w2 ⟨rfl, hb2⟩
            have HB2 := Lib.hid (one_below hb2)
            clear hb2
            cases rf with
            | true =>
              obtain rfl : E = 5 := HNEXT.out.1 rfl
              go_wp2_with fail
              go_ret
              exact ⟨rfl, Below.next HBW.out HB2.out⟩
            | false =>
              have HPN := Lib.hid (HNEXT.out.2 rfl)
              go_wp2_with fail
              go_roundg (np - (j + 1))
              case measure => omega
              case rel => exact ⟨j + 1, all + n, rfl, by omega, rfl, by go_num, by omega, by omega, HPN, Lib.hid (HB.out.trans (HB2.out.mono (by omega)))⟩
      · obtain rfl : j = np := by omega
        have HT := Lib.hid (show u.okB = true from by rw [HOK.out, HS.out, List.drop_eq_nil_of_le (by rw [← HNP.out]; exact Nat.le_refl _)]; rfl)
        obtain rfl : E = 0 := by rw [← HE.out, err_ok HT.out]
        go_wp2_with fail
        go_ret
        exact ⟨rfl, HBW.out⟩
end Go.Proofs.YtigkhmppnnljiaaGreatDoor

namespace Go.Proofs.YtigkhmppnnljiaaGreatDoor
open Go

/-- A step's end. -/
def InvPost (I : Array Bool → Act → World → Prop) (listed : Array Bool) (i : Nat) (o : Oper) (a : Act) (e : Exit) (a' : Act) (w' : World) : Prop := e = .normal ∧ ∃ v, a' = a.put o.dst v ∧ I (listed.setIfInBounds i true) a' w'
theorem wp_region_inv {P : Program} {id : Nat} {Q : Exit → Act → World → Prop} {a0 : Act} {w : World} {l : List Oper} (n : Nat) (I : Array Bool → Act → World → Prop) (hm : P.follows .mixedOrders = true) (hB : monoB l.toArray n a0.tmps.size = true)
    (h0 : I (Array.replicate l.toArray.size false) a0 w.drew)
    (hops : ∀ i o, i < n → l.toArray[i]? = some o → ∀ (listed : Array Bool) (a : Act) (w1 : World), listed.size = l.toArray.size → a.defers = a0.defers → a.tmps.size = a0.tmps.size → Rest l.toArray n a0 a → I listed a w1 → listed.getD i false = false → (∀ e ∈ o.after, Region.binds .any e = true → listed.getD e.on false = true) →
      wpList P l.toArray (InvPost I listed i o a) [o] a w1)
    (hend : ∀ (listed : Array Bool) (a : Act) (w1 : World), (∀ i, i < n → listed.getD i false = true) → a.defers = a0.defers → a.tmps.size = a0.tmps.size → Rest l.toArray n a0 a → I listed a w1 → wpList P l.toArray Q (l.drop n) a w1) :
    (Code.region id l.toArray true).wp P Q a0 w := by
  simp only [monoB, monoG, Bool.and_eq_true, decide_eq_true_eq] at hB
  obtain ⟨⟨h1, h2, h3, h4, h5, h6⟩, h7⟩ := hB
  refine wp_region_any hm ?_
  have inv0 : HeadInv .any l.toArray n (Array.replicate l.toArray.size false) :=
    ⟨by simp, fun j oj _ hl => (by rw [getD_replicate_false] at hl; cases hl), fun t _ ht => getD_in (by simpa using ht) (getD_replicate_false _ _)⟩
  have hcount : ((List.range n).filter fun i => !(Array.replicate l.toArray.size false).getD i true).length = n := by
    rw [List.filter_eq_self.2]
    · simp
    · intro i hi
      have : i < l.toArray.size := by have := List.mem_range.1 hi; omega
      have h' : i < l.length := by simpa using this
      simp [h']
  have := any_inv (P := P) (Q := Q) (g := l.toArray.size - n) (I := fun listed a w => listed.size = l.toArray.size ∧ a.defers = a0.defers ∧ a.tmps.size = a0.tmps.size ∧ Rest l.toArray n a0 a ∧ I listed a w) h1 h2 h3 h4 ?_ ?_ n _ a0 w.drew hcount inv0
    ⟨by simp, rfl, rfl, fun _ _ => rfl, h0⟩
  · rwa [show n + (l.toArray.size - n) = l.toArray.size by omega] at this
  · rintro listed a w1 i ⟨hls, hdf, hsz, hrest, hI⟩ hi hr
    obtain ⟨hun, o, ho, hdeps⟩ := mem_ready.1 hr
    unfold wpOp
    simp only [ho]
    have hg : Region.wanted o (yielded l.toArray a.tmps) = true := wanted_of (R := fun _ _ _ => True) (w := w1) h7 (fun _ h => by cases h) hi ho (by rw [hsz]; exact Nat.le_refl _) (fun _ _ _ _ _ _ _ => trivial)
    rw [if_pos hg]
    left
    refine Oper.wp_mono ?_ (wp_of_list (ops := l.toArray) hg (hops i o hi ho listed a w1 hls hdf hsz hrest hI (by
      have hlt : i < listed.size := by rw [hls]; omega
      simpa [hlt] using hun) hdeps))
    rintro a' w' ⟨v, rfl, hI'⟩
    refine ⟨by simpa using hls, ?_, ?_, ?_, hI'⟩
    · cases o.dst <;> exact hdf
    · cases hdst : o.dst with
      | none => exact hsz
      | some d => simpa [Act.put] using hsz
    · intro t ht
      cases hdst : o.dst with
      | none => exact hrest t ht
      | some d' =>
        have hd' : d' < a.tmps.size := by
          have g1 := List.all_eq_true.1 (List.all_eq_true.1 h5 i (List.mem_range.2 hi)) i (List.mem_range.2 hi)
          simp only [ho, hdst, Bool.and_eq_true, decide_eq_true_eq] at g1
          rw [hsz]; exact g1.1
        rw [put_getD hd', if_neg ?_]
        · exact hrest t ht
        · rintro rfl; exact ht i o hi ho hdst
  · rintro listed a w1 ⟨hls, hdf, hsz, hrest, hI⟩ inv hall
    have hdl : (l.drop n).length = l.toArray.size - n := by simp
    have g := wpAny_of_seq (md := .any) (Q' := Q) (l.drop n) n listed a w1 (fun j => by simp [List.getElem?_drop]) (by rw [hdl, headDone_eq h4 inv hall]; exact h6)
      (hend listed a w1 (fun i hi => by
        have := hall i hi
        have hlt : i < listed.size := by rw [hls]; omega
        simpa [hlt] using this) hdf hsz hrest hI)
    rwa [hdl] at g
end Go.Proofs.YtigkhmppnnljiaaGreatDoor

namespace Go.Proofs.YtigkhmppnnljiaaGreatDoor
open Go.RowKit

/-! ### the region that makes two sets -/
end Go.Proofs.YtigkhmppnnljiaaGreatDoor

namespace Go.Proofs.YtigkhmppnnljiaaGreatDoor
open Go.RowKit

end Go.Proofs.YtigkhmppnnljiaaGreatDoor

namespace Go.Proofs.YtigkhmppnnljiaaGreatDoor
open Go.RowKit
section
variable {P : Program} {ops : Array Oper} {Q : Exit → Act → World → Prop} {o : Oper} {a : Act} {w w' : World}
theorem wpList_value {v : Value} (hg : o.guard = none) (h : (execOp a.eval o).run P w = .ok (.value v) w') (hQ : Q .normal (a.put o.dst v) w') : wpList P ops Q [o] a w :=
  wpList_plain hg fun K hK => by unfold Oper.wp; rw [h]; exact hK _ _ hQ
end
end Go.Proofs.YtigkhmppnnljiaaGreatDoor

namespace Go.Proofs.YtigkhmppnnljiaaGreatDoor
open Go.RowKit
namespace Live
open Unt Peep
end Live
end Go.Proofs.YtigkhmppnnljiaaGreatDoor

namespace Go.Proofs.YtigkhmppnnljiaaGreatDoor
open Go Go.RowKit

set_option maxHeartbeats 2000000 in
set_option maxRecDepth 100000 in
/-- A sort that binds: one part more than variables. -/
theorem sfits_binds (f t op n : Int) (ov ot : Option Addr) (lv cv lt ct : Nat) (hop : op ≠ 4) (hlt : lt ≤ ct) (hct : ct ≤ 9223372036854775807) (hlv : lv ≤ cv) (hcv : cv ≤ 9223372036854775807) (w : World) :
    Calls Tryz.prog 101 #[.agg #[.int .i64 f, .int .i64 t, .int .i64 0, .bool false, .bool true], .agg #[.int .i64 op, .int .i64 n, .slice ov lv cv, .slice ot lt ct]] w fun e w' => e = .returned (.bool (decide (lt = lv + 1))) ∧ Below w.heap.size w w' := by
  have f4 : (op != 4) = true := by simpa using hop
  have hb : Below w.heap.size w ((w.alloc (.cells #[.int .i64 f, .int .i64 t, .int .i64 0, .bool false, .bool true] 144)).alloc (.cells #[.int .i64 op, .int .i64 n, .slice ov lv cv, .slice ot lt ct] 41)) := (Below.one w _).trans ((Below.one _ _).mono (by simp))
  have HB := Lib.hid hb
  clear hb hop
  by_cases hm : lv = 9223372036854775807
  · subst hm
    have e1 : decide (lt = 9223372036854775807 + 1) = false := by simp; omega
    have e3 : IntKind.i64.wrap 9223372036854775808 = -9223372036854775808 := by decide
    rw [e1]
    have e2 : ((lt : Int) == -9223372036854775808) = false := by simp
    go_enter Tryz.func101, Tryz.ntmps101
    go_wp2_with fail
    go_ret
    exact ⟨rfl, HB.out⟩
  · by_cases he : lt = lv + 1
    · subst he
      have e1 : decide (lv + 1 = lv + 1) = true := by simp
      rw [e1]
      have e2 : (((lv + 1 : Nat) : Int) == (lv : Int) + 1) = true := by simp
      go_enter Tryz.func101, Tryz.ntmps101
      go_wp2_with fail
      go_ret
      exact ⟨rfl, HB.out⟩
    · rw [decide_eq_false he]
      have e2 : ((lt : Int) == (lv : Int) + 1) = false := by simp; omega
      go_enter Tryz.func101, Tryz.ntmps101
      go_wp2_with fail
      go_ret
      exact ⟨rfl, HB.out⟩
set_option maxHeartbeats 2000000 in
set_option maxRecDepth 100000 in
/-- A sort that binds nothing. -/
theorem sfits_plain (f t op n : Int) (least : Nat) (any : Bool) (ov ot : Option Addr) (lv cv lt ct : Nat) (w : World) :
    Calls Tryz.prog 101 #[.agg #[.int .i64 f, .int .i64 t, .int .i64 least, .bool any, .bool false], .agg #[.int .i64 op, .int .i64 n, .slice ov lv cv, .slice ot lt ct]] w fun e w' => e = .returned (.bool ((decide (lt = least) || (any && decide (least ≤ lt))) && decide (lv = 0))) ∧ Below w.heap.size w w' := by
  have hb : Below w.heap.size w ((w.alloc (.cells #[.int .i64 f, .int .i64 t, .int .i64 least, .bool any, .bool false] 144)).alloc (.cells #[.int .i64 op, .int .i64 n, .slice ov lv cv, .slice ot lt ct] 41)) := (Below.one w _).trans ((Below.one _ _).mono (by simp))
  have HB := Lib.hid hb
  clear hb
  obtain ⟨q0, hq0⟩ : ∃ q0, decide (lv = 0) = q0 := ⟨_, rfl⟩
  have g0 : ((lv : Int) == 0) = q0 := by rw [← hq0]; rw [Bool.eq_iff_iff]; simp
  rw [hq0]
  clear hq0
  by_cases he : lt = least
  · have e1 : decide (lt = least) = true := decide_eq_true he
    have e2 : ((lt : Int) == (least : Int)) = true := by simp [he]
    rw [e1, Bool.true_or, Bool.true_and]
    clear he
    cases q0 <;> (go_enter Tryz.func101, Tryz.ntmps101; go_wp2_with fail; go_ret; exact ⟨rfl, HB.out⟩)
  · have e1 : decide (lt = least) = false := decide_eq_false he
    have e2 : ((lt : Int) == (least : Int)) = false := by simp; omega
    rw [e1, Bool.false_or]
    clear he
    cases any with
    | false =>
      rw [Bool.false_and, Bool.false_and]
      cases q0 <;> (go_enter Tryz.func101, Tryz.ntmps101; go_wp2_with fail; go_ret; exact ⟨rfl, HB.out⟩)
    | true =>
      obtain ⟨q1, hq1⟩ : ∃ q1, decide (least ≤ lt) = q1 := ⟨_, rfl⟩
      have g1 : decide ((least : Int) ≤ lt) = q1 := by rw [← hq1]; rw [Bool.eq_iff_iff]; simp
      rw [hq1, Bool.true_and]
      cases q1 <;> cases q0 <;> (go_enter Tryz.func101, Tryz.ntmps101; go_wp2_with fail; go_ret; exact ⟨rfl, HB.out⟩)
end Go.Proofs.YtigkhmppnnljiaaGreatDoor

/-
  What the proofs lean on: Sols, MkLaw, ChkA, Few14.
-/
import Derived.Laws.BitsAllLaws
import Derived.Deep.OwnRows
import Derived.Deep.LoopGhost
import Derived.Deep.RegionLaw
import Derived.Deep.AppendLies
import Derived.Test.YtigkhmppnnljiaaGreatDoorFlatA03
import Derived.Test.YtigkhmppnnljiaaGreatDoorFlatA08
import Derived.Test.YtigkhmppnnljiaaGreatDoorFlatA10
import Derived.Test.YtigkhmppnnljiaaGreatDoorFlatA13
import Derived.Test.YtigkhmppnnljiaaGreatDoorFlatA14
import Derived.Test.YtigkhmppnnljiaaGreatDoorFlatA15
import Derived.Test.YtigkhmppnnljiaaGreatDoorFlatA16
namespace Go.Proofs.YtigkhmppnnljiaaGreatDoor
open Go

end Go.Proofs.YtigkhmppnnljiaaGreatDoor

namespace Go.Proofs.YtigkhmppnnljiaaGreatDoor
open Go.RowKit

/-! ### the region that makes two sets -/
end Go.Proofs.YtigkhmppnnljiaaGreatDoor

namespace Go.Proofs.YtigkhmppnnljiaaGreatDoor
open Go.RowKit

end Go.Proofs.YtigkhmppnnljiaaGreatDoor

namespace Go.Proofs.YtigkhmppnnljiaaGreatDoor
open Go.RowKit
section
variable {P : Program} {ops : Array Oper} {Q : Exit → Act → World → Prop} {o : Oper} {a : Act} {w w' : World}
theorem wpList_value {v : Value} (hg : o.guard = none) (h : (execOp a.eval o).run P w = .ok (.value v) w') (hQ : Q .normal (a.put o.dst v) w') : wpList P ops Q [o] a w :=
  wpList_plain hg fun K hK => by unfold Oper.wp; rw [h]; exact hK _ _ hQ
end
end Go.Proofs.YtigkhmppnnljiaaGreatDoor

namespace Go.Proofs.YtigkhmppnnljiaaGreatDoor
open Go.RowKit
namespace Live
open Unt Peep
end Live
end Go.Proofs.YtigkhmppnnljiaaGreatDoor

namespace Go.Proofs.YtigkhmppnnljiaaGreatDoor

namespace Trm
theorem addV_nil (S : Int → Bool) : addV S [] = S := by funext x; simp [addV]
theorem addV_append (S : Int → Bool) (a b : List Int) : addV S (a ++ b) = addV (addV S a) b := by funext x; simp [addV, Bool.or_assoc]
theorem newB_append (a b : List Int) : ∀ S : Int → Bool, newB S (a ++ b) = (newB S a && newB (addV S a) b) := by
  induction a with
  | nil => intro S; simp [newB, addV_nil]
  | cons x a ih => intro S; simp [newB, ih, Bool.and_assoc, ← addV_append]
theorem newB_iff : ∀ (l : List Int) (S : Int → Bool), newB S l = true ↔ (∀ x ∈ l, 0 ≤ x ∧ x ≤ 1000000 ∧ S x = false) ∧ l.Nodup := by
  intro l
  induction l with
  | nil => intro S; simp [newB]
  | cons x l ih =>
    intro S
    rw [newB, Bool.and_eq_true, ih]
    simp only [Bool.and_eq_true, decide_eq_true_eq, Bool.not_eq_true', List.mem_cons, forall_eq_or_imp, List.nodup_cons, addV, Bool.or_eq_false_iff, List.contains_eq_mem, List.not_mem_nil, or_false, decide_eq_false_iff_not]
    constructor
    · rintro ⟨⟨h1, h2, h3⟩, h4, h5⟩
      exact ⟨⟨⟨h1, h2, h3⟩, fun y hy => ⟨(h4 y hy).1, (h4 y hy).2.1, (h4 y hy).2.2.1⟩⟩, fun hx => (h4 x hx).2.2.2 rfl, h5⟩
    · rintro ⟨⟨⟨h1, h2, h3⟩, h4⟩, h5, h6⟩
      exact ⟨⟨h1, h2, h3⟩, fun y hy => ⟨(h4 y hy).1, (h4 y hy).2.1, (h4 y hy).2.2, fun e => h5 (e ▸ hy)⟩, h6⟩
theorem newB_perm {a b : List Int} (h : a.Perm b) (S : Int → Bool) : newB S a = newB S b := by
  rw [Bool.eq_iff_iff, newB_iff, newB_iff]
  exact ⟨fun ⟨h1, h2⟩ => ⟨fun x hx => h1 x (h.mem_iff.2 hx), h.nodup_iff.1 h2⟩, fun ⟨h1, h2⟩ => ⟨fun x hx => h1 x (h.mem_iff.1 hx), h.nodup_iff.2 h2⟩⟩
theorem addV_perm {a b : List Int} (h : a.Perm b) (S : Int → Bool) : addV S a = addV S b := by
  funext x
  rw [Bool.eq_iff_iff]
  simp [addV, h.mem_iff]
theorem nodup_short : ∀ (N : Nat) (l : List Int), l.Nodup → (∀ x ∈ l, 0 ≤ x ∧ x < N) → l.length ≤ N
  | 0, l, _, h => by
    cases l with
    | nil => simp
    | cons x l => have := h x (by simp); omega
  | N + 1, l, hd, h => by
    have h1 := nodup_short N (l.erase (N : Int)) (hd.erase _) (fun x hx => by
      have := (hd.mem_erase_iff).1 hx
      have := h x this.2
      omega)
    have := List.le_length_erase (a := (N : Int)) (l := l)
    omega
theorem newB_short {S : Int → Bool} {l : List Int} (h : newB S l = true) : l.length ≤ 1000001 := by
  obtain ⟨h1, h2⟩ := (newB_iff l S).1 h
  exact nodup_short 1000001 l h2 fun x hx => by have := h1 x hx; omega
theorem all_pos : ∀ x : Trm, 1 ≤ x.all
  | mk _ _ _ t => by rw [all]; omega
theorem allL_length : ∀ l : List Trm, l.length ≤ allL l
  | [] => Nat.le_refl _
  | x :: l => by have := allL_length l; have := all_pos x; rw [allL, List.length_cons]; omega
end Trm

namespace Mk
theorem lkL_snoc (l : List (Int × Int)) (v r x : Int) : lkL (l ++ [(v, r)]) x = if x = v then r else lkL l x := by
  induction l with
  | nil => simp [lkL, eq_comm]
  | cons p l ih =>
    rw [List.cons_append, lkL, ih, lkL]
    by_cases h : x = v
    · subst h; simp
    · have hv : (v == x) = false := by simpa using Ne.symm h
      have e : (l ++ [(v, r)]).any (fun q => q.1 == x) = l.any (fun q => q.1 == x) := by rw [List.any_append]; simp [hv]
      rw [e]; simp [h]
/-- A look-up that gives a register of the list, or nought. -/
def LkOk (lk : List (Int × Int) → Int → Int) : Prop := ∀ l v, lk l v = 0 ∨ ∃ p ∈ l, lk l v = p.2
theorem lkL_ok : LkOk lkL := by
  intro l v
  induction l with
  | nil => exact .inl rfl
  | cons p l ih =>
    rw [lkL]
    split
    · rcases ih with h | ⟨q, hq, h⟩
      · exact .inl h
      · exact .inr ⟨q, by simp [hq], h⟩
    · split
      · exact .inr ⟨p, by simp, rfl⟩
      · exact .inl rfl
/-- There is room for so many instructions, registers, variables; registers are small. -/
def Room (s : MSt) (k : Nat) : Prop := s.code.length + k ≤ 900000 ∧ 0 ≤ s.regs ∧ s.regs + k ≤ 1900000 ∧ (∀ p ∈ s.vars, 0 ≤ p.2 ∧ p.2 ≤ 1900000) ∧ s.vars.length + k ≤ 1900000
theorem Room.mono {s : MSt} {k k' : Nat} (h : Room s k) (hk : k' ≤ k) : Room s k' := ⟨by have := h.1; omega, h.2.1, by have := h.2.2.1; omega, h.2.2.2.1, by have := h.2.2.2.2; omega⟩
theorem Room.put {s : MSt} {k : Nat} (h : Room s (k + 1)) (x : Ins) : Room (s.put x) k := ⟨by have := h.1; simp [MSt.put]; omega, h.2.1, by have := h.2.2.1; simp only [MSt.put]; omega, h.2.2.2.1, by have := h.2.2.2.2; simp only [MSt.put]; omega⟩
theorem Room.fresh {s : MSt} {k : Nat} (h : Room s (k + 1)) : Room s.fresh k := ⟨by have := h.1; simp only [MSt.fresh]; omega, by have := h.2.1; simp only [MSt.fresh]; omega, by have := h.2.2.1; simp only [MSt.fresh]; omega, h.2.2.2.1, by have := h.2.2.2.2; simp only [MSt.fresh]; omega⟩
theorem Room.setA {s : MSt} {k : Nat} (h : Room s k) (j : Nat) (a : Int) : Room (s.setA j a) k := ⟨by simpa [MSt.setA] using h.1, h.2⟩
theorem Room.setB {s : MSt} {k : Nat} (h : Room s k) (j : Nat) (a : Int) : Room (s.setB j a) k := ⟨by simpa [MSt.setB] using h.1, h.2⟩
theorem Room.bind {s : MSt} {k : Nat} (v rs : List Int) (h : Room s (k + rs.length)) (hr : ∀ x ∈ rs, 0 ≤ x ∧ x ≤ 1900000) : Room (s.bind v rs) k := ⟨by have := h.1; simp only [MSt.bind]; omega, h.2.1, by have := h.2.2.1; simp only [MSt.bind]; omega, fun p hp => by
  rcases List.mem_append.1 hp with hp | hp
  · exact h.2.2.2.1 p hp
  · exact hr _ (List.of_mem_zip hp).2, by have := h.2.2.2.2; simp only [MSt.bind, List.length_append, List.length_zip]; omega⟩
theorem Room.lk {lk : List (Int × Int) → Int → Int} (hl : LkOk lk) {s : MSt} {k : Nat} (h : Room s k) (v : Int) : 0 ≤ lk s.vars v ∧ lk s.vars v ≤ 1900000 := by
  rcases hl s.vars v with h' | ⟨p, hp, h'⟩
  · rw [h']; omega
  · rw [h']; exact h.2.2.2.1 p hp
theorem Room.ite {c : Prop} [Decidable c] {a b : MSt} {k : Nat} (ha : Room a k) (hb : Room b k) : Room (if c then a else b) k := by split <;> assumption
theorem Room.strict {s : MSt} {k : Nat} (h : Room s (k + 2)) (op n d : Int) (l : List Int) : Room (strict op n d l s) k := by
  have h1 : ∀ x, Room (s.put x) k := fun x => Room.mono (k := k + 1) (Room.put (k := k + 1) h x) (by omega)
  unfold Mk.strict
  repeat' (refine Room.ite ?_ ?_)
  all_goals first | exact h1 _ | exact Room.put (k := k) (Room.put (k := k + 1) h _) _ | exact Room.mono (k := k + 2) h (by omega)
theorem Room.ended {s : MSt} {k : Nat} (h : Room s (k + 1)) (op n : Int) (l : List Int) : Room (ended op n l s) k := by
  unfold Mk.ended
  repeat' (refine Room.ite ?_ ?_)
  all_goals exact h.put _
theorem Room.fix1 : ∀ (v : List Int) (t : List Trm) {s : MSt} {k : Nat}, Room s (k + 3 * t.length) → Room (fix1 v t s) k
  | [], t, s, k, h => by
    rw [Mk.fix1]
    · exact h.mono (by omega)
    · simp
  | v :: vs, [], s, k, h => by
    rw [Mk.fix1]
    · exact h.mono (by omega)
    · simp
  | v :: vs, x :: l, s, k, h => by
    rw [Mk.fix1]
    simp only [List.length_cons] at h
    refine Room.fix1 vs l ?_
    have h2 : Room s (k + 3 * l.length + 1 + 1 + 1) := h.mono (by omega)
    refine (Room.bind [v] [s.regs] h2.fresh fun x hx => ?_).put _
    rw [List.mem_singleton.1 hx]
    have := h2.2.1
    have := h2.2.2.1
    omega
theorem Room.thens {f g : Int → Bool → MSt → MSt} {cf cg : Nat} (hf : ∀ (d : Int) (e : Bool) (s : MSt) (k : Nat), Room s (k + cf) → Room (f d e s) k) (hg : ∀ (d : Int) (e : Bool) (s : MSt) (k : Nat), Room s (k + cg) → Room (g d e s) k)
    (c d : Int) (e : Bool) {s : MSt} {k : Nat} (h : Room s (k + 2 + cf + cg)) : Room (thens f g c d e s) k := by
  have h1 := hf d e _ (k + cg + 1) (Room.put (h.mono (k' := k + cg + 1 + cf + 1) (by omega)) ⟨16, 0, c, 0, []⟩)
  unfold Mk.thens
  dsimp only
  cases e with
  | true => exact hg _ _ _ _ (Room.setB (h1.mono (by omega)) _ _)
  | false => exact Room.setA (hg _ _ _ _ (Room.setB (Room.put (h1.mono (by omega)) _) _ _)) _ _

theorem Room.had {lk : List (Int × Int) → Int → Int} (hl : LkOk lk) (x : Trm) (hx : ∀ (d : Int) (e : Bool) (s : MSt) (k : Nat), Room s (k + (6 * x.all - 2)) → Room (into lk x d e s) k) {s : MSt} {k : Nat} (h : Room s (k + (6 * x.all - 1))) :
    Room (hadW lk x.op x.n (into lk x) s).2 k ∧ 0 ≤ (hadW lk x.op x.n (into lk x) s).1 ∧ (hadW lk x.op x.n (into lk x) s).1 ≤ 1900000 := by
  have := x.all_pos
  unfold hadW
  split
  · exact ⟨h.mono (by omega), h.lk hl _⟩
  · refine ⟨hx _ _ _ _ (Room.fresh (h.mono (by omega))), h.2.1, by have := h.2.2.1; omega⟩
mutual
theorem Room.into {lk : List (Int × Int) → Int → Int} (hl : LkOk lk) : ∀ (x : Trm) (d : Int) (e : Bool) (s : MSt) (k : Nat), Room s (k + (6 * x.all - 2)) → Room (into lk x d e s) k
  | .mk op n v t, d, e, s, k, h => by
    rw [Trm.all] at h
    rw [Mk.into]
    split
    · exact Room.choice hl t d e s k (h.mono (by omega))
    split
    · exact Room.seqs hl t d e s k (h.mono (by omega))
    split
    · exact Room.lets hl t v [] d e s k (h.mono (by simp only [List.length_nil]; omega)) (by simp)
    split
    · have hk := Trm.allL_length t
      exact Room.fixs hl t v d e _ k (Room.fix1 v t (h.mono (by omega)))
    split
    · split
      · exact Room.ended (Room.allT hl t s (k + 1) (h.mono (by omega))).1 _ _ _
      · split
        · exact Room.put (h.mono (by omega)) _
        · exact Room.put (Room.strict (Room.allT hl t s.fresh (k + 3) (Room.fresh (h.mono (by omega)))).1 _ _ _ _) _
    · split
      · exact Room.put (h.mono (by omega)) _
      · exact Room.strict (Room.allT hl t s (k + 2) (h.mono (by omega))).1 _ _ _ _
theorem Room.choice {lk : List (Int × Int) → Int → Int} (hl : LkOk lk) : ∀ (l : List Trm) (d : Int) (e : Bool) (s : MSt) (k : Nat), Room s (k + 2 + 6 * Trm.allL l) → Room (choice lk l d e s) k
  | [a, b, x], d, e, s, k, h => by
    simp only [Trm.allL] at h
    rw [Mk.choice]
    have := a.all_pos
    have := b.all_pos
    have := x.all_pos
    exact Room.thens (cf := 6 * b.all - 2) (cg := 6 * x.all - 2) (fun d e s k h => Room.into hl b d e s k h) (fun d e s k h => Room.into hl x d e s k h) _ _ _ (Room.had hl a (Room.into hl a) (h.mono (by omega))).1
  | [], _, _, _, _, h => by rw [Mk.choice]; exact h.mono (by omega); all_goals simp
  | [_], _, _, _, _, h => by rw [Mk.choice]; exact h.mono (by omega); all_goals simp
  | [_, _], _, _, _, _, h => by rw [Mk.choice]; exact h.mono (by omega); all_goals simp
  | _ :: _ :: _ :: _ :: _, _, _, _, _, h => by rw [Mk.choice]; exact h.mono (by omega); all_goals simp
theorem Room.allT {lk : List (Int × Int) → Int → Int} (hl : LkOk lk) : ∀ (l : List Trm) (s : MSt) (k : Nat), Room s (k + 6 * Trm.allL l) → Room (allT lk l s).2 k ∧ ∀ x ∈ (allT lk l s).1, 0 ≤ x ∧ x ≤ 1900000
  | [], s, k, h => by rw [Mk.allT]; exact ⟨h, by simp⟩
  | x :: l, s, k, h => by
    simp only [Trm.allL] at h
    rw [Mk.allT]
    have h1 := Room.had hl x (Room.into hl x) (h.mono (k' := k + 6 * Trm.allL l + (6 * x.all - 1)) (by omega))
    have h2 := Room.allT hl l _ k h1.1
    refine ⟨h2.1, fun y hy => ?_⟩
    rcases List.mem_cons.1 hy with rfl | hy
    · exact h1.2
    · exact h2.2 y hy
theorem Room.seqs {lk : List (Int × Int) → Int → Int} (hl : LkOk lk) : ∀ (l : List Trm) (d : Int) (e : Bool) (s : MSt) (k : Nat), Room s (k + 6 * Trm.allL l) → Room (seqs lk l d e s) k
  | [], _, _, _, _, h => by rw [Mk.seqs]; exact h
  | [x], d, e, s, k, h => by
    simp only [Trm.allL] at h
    rw [Mk.seqs]
    exact Room.into hl x d e s k (h.mono (by omega))
  | x :: y :: l, d, e, s, k, h => by
    rw [Trm.allL] at h
    rw [Mk.seqs]
    exact Room.seqs hl (y :: l) d e _ k (Room.had hl x (Room.into hl x) (h.mono (by omega))).1
theorem Room.lets {lk : List (Int × Int) → Int → Int} (hl : LkOk lk) : ∀ (l : List Trm) (v rs : List Int) (d : Int) (e : Bool) (s : MSt) (k : Nat), Room s (k + 6 * Trm.allL l + rs.length) → (∀ x ∈ rs, 0 ≤ x ∧ x ≤ 1900000) → Room (lets lk l v rs d e s) k
  | [], _, _, _, _, _, _, h, _ => by rw [Mk.lets]; exact h.mono (by omega)
  | [x], v, rs, d, e, s, k, h, hr => by
    simp only [Trm.allL] at h
    rw [Mk.lets]
    exact Room.into hl x d e _ k (Room.bind v rs (h.mono (by omega)) hr)
  | x :: y :: l, v, rs, d, e, s, k, h, hr => by
    rw [Trm.allL] at h
    rw [Mk.lets]
    have := x.all_pos
    have h1 := Room.had hl x (Room.into hl x) (h.mono (k' := k + 6 * Trm.allL (y :: l) + (rs.length + 1) + (6 * x.all - 1)) (by omega))
    refine Room.lets hl (y :: l) v _ d e _ k (h1.1.mono (by simp)) fun z hz => ?_
    rcases List.mem_append.1 hz with hz | hz
    · exact hr z hz
    · rw [List.mem_singleton.1 hz]; exact h1.2
theorem Room.fixs {lk : List (Int × Int) → Int → Int} (hl : LkOk lk) : ∀ (l : List Trm) (v : List Int) (d : Int) (e : Bool) (s : MSt) (k : Nat), Room s (k + (6 * Trm.allL l - 5 * (l.length - 1))) → Room (fixs lk l v d e s) k
  | [], _, _, _, _, _, h => by rw [Mk.fixs]; exact h.mono (by simp)
  | [x], v, d, e, s, k, h => by
    simp only [Trm.allL, List.length_cons, List.length_nil] at h
    rw [Mk.fixs]
    exact Room.into hl x d e s k (h.mono (by omega))
  | .mk o m w t :: y :: l, v, d, e, s, k, h => by
    have hk := Trm.allL_length (y :: l)
    rw [Trm.allL, Trm.all] at h
    simp only [List.length_cons] at h hk
    rw [Mk.fixs]
    have h1 := Room.allT hl t s (k + (6 * Trm.allL (y :: l) - 5 * (l.length + 1 - 1)) + 1) (h.mono (by omega))
    exact Room.fixs hl (y :: l) v.tail d e _ k (Room.put h1.1 _)
end
end Mk
end Go.Proofs.YtigkhmppnnljiaaGreatDoor

namespace Go.Proofs.YtigkhmppnnljiaaGreatDoor
open Go Go.RowKit

set_option maxHeartbeats 2000000 in
set_option maxRecDepth 100000 in
/-- A sort that binds: one part more than variables. -/
theorem sfits_binds (f t op n : Int) (ov ot : Option Addr) (lv cv lt ct : Nat) (hop : op ≠ 4) (hlt : lt ≤ ct) (hct : ct ≤ 9223372036854775807) (hlv : lv ≤ cv) (hcv : cv ≤ 9223372036854775807) (w : World) :
    Calls Tryz.prog 101 #[.agg #[.int .i64 f, .int .i64 t, .int .i64 0, .bool false, .bool true], .agg #[.int .i64 op, .int .i64 n, .slice ov lv cv, .slice ot lt ct]] w fun e w' => e = .returned (.bool (decide (lt = lv + 1))) ∧ Below w.heap.size w w' := by
  have f4 : (op != 4) = true := by simpa using hop
  have hb : Below w.heap.size w ((w.alloc (.cells #[.int .i64 f, .int .i64 t, .int .i64 0, .bool false, .bool true] 144)).alloc (.cells #[.int .i64 op, .int .i64 n, .slice ov lv cv, .slice ot lt ct] 41)) := (Below.one w _).trans ((Below.one _ _).mono (by simp))
  have HB := Lib.hid hb
  clear hb hop
  by_cases hm : lv = 9223372036854775807
  · subst hm
    have e1 : decide (lt = 9223372036854775807 + 1) = false := by simp; omega
    have e3 : IntKind.i64.wrap 9223372036854775808 = -9223372036854775808 := by decide
    rw [e1]
    have e2 : ((lt : Int) == -9223372036854775808) = false := by simp
    go_enter Tryz.func101, Tryz.ntmps101
    go_wp2_with fail
    go_ret
    exact ⟨rfl, HB.out⟩
  · by_cases he : lt = lv + 1
    · subst he
      have e1 : decide (lv + 1 = lv + 1) = true := by simp
      rw [e1]
      have e2 : (((lv + 1 : Nat) : Int) == (lv : Int) + 1) = true := by simp
      go_enter Tryz.func101, Tryz.ntmps101
      go_wp2_with fail
      go_ret
      exact ⟨rfl, HB.out⟩
    · rw [decide_eq_false he]
      have e2 : ((lt : Int) == (lv : Int) + 1) = false := by simp; omega
      go_enter Tryz.func101, Tryz.ntmps101
      go_wp2_with fail
      go_ret
      exact ⟨rfl, HB.out⟩
set_option maxHeartbeats 2000000 in
set_option maxRecDepth 100000 in
/-- A sort that binds nothing. -/
theorem sfits_plain (f t op n : Int) (least : Nat) (any : Bool) (ov ot : Option Addr) (lv cv lt ct : Nat) (w : World) :
    Calls Tryz.prog 101 #[.agg #[.int .i64 f, .int .i64 t, .int .i64 least, .bool any, .bool false], .agg #[.int .i64 op, .int .i64 n, .slice ov lv cv, .slice ot lt ct]] w fun e w' => e = .returned (.bool ((decide (lt = least) || (any && decide (least ≤ lt))) && decide (lv = 0))) ∧ Below w.heap.size w w' := by
  have hb : Below w.heap.size w ((w.alloc (.cells #[.int .i64 f, .int .i64 t, .int .i64 least, .bool any, .bool false] 144)).alloc (.cells #[.int .i64 op, .int .i64 n, .slice ov lv cv, .slice ot lt ct] 41)) := (Below.one w _).trans ((Below.one _ _).mono (by simp))
  have HB := Lib.hid hb
  clear hb
  obtain ⟨q0, hq0⟩ : ∃ q0, decide (lv = 0) = q0 := ⟨_, rfl⟩
  have g0 : ((lv : Int) == 0) = q0 := by rw [← hq0]; rw [Bool.eq_iff_iff]; simp
  rw [hq0]
  clear hq0
  by_cases he : lt = least
  · have e1 : decide (lt = least) = true := decide_eq_true he
    have e2 : ((lt : Int) == (least : Int)) = true := by simp [he]
    rw [e1, Bool.true_or, Bool.true_and]
    clear he
    cases q0 <;> (go_enter Tryz.func101, Tryz.ntmps101; go_wp2_with fail; go_ret; exact ⟨rfl, HB.out⟩)
  · have e1 : decide (lt = least) = false := decide_eq_false he
    have e2 : ((lt : Int) == (least : Int)) = false := by simp; omega
    rw [e1, Bool.false_or]
    clear he
    cases any with
    | false =>
      rw [Bool.false_and, Bool.false_and]
      cases q0 <;> (go_enter Tryz.func101, Tryz.ntmps101; go_wp2_with fail; go_ret; exact ⟨rfl, HB.out⟩)
    | true =>
      obtain ⟨q1, hq1⟩ : ∃ q1, decide (least ≤ lt) = q1 := ⟨_, rfl⟩
      have g1 : decide ((least : Int) ≤ lt) = q1 := by rw [← hq1]; rw [Bool.eq_iff_iff]; simp
      rw [hq1, Bool.true_and]
      cases q1 <;> cases q0 <;> (go_enter Tryz.func101, Tryz.ntmps101; go_wp2_with fail; go_ret; exact ⟨rfl, HB.out⟩)
end Go.Proofs.YtigkhmppnnljiaaGreatDoor

namespace Go.Proofs.YtigkhmppnnljiaaGreatDoor
open Go Go.RowKit

namespace Mdl
def fewC (n : Int) : List Cod → Int → Bool
  | [], _ => true
  | c :: l, k => decide ((c.body.all : Int) ≤ n) && (decide (k + c.body.all ≤ n) && fewC n l (k + c.body.all))
/-- Are there few codes, constants, terms? -/
def fewB (m : Mdl) (n : Int) : Bool := decide (m.codes.length ≤ 50) && (decide (m.consts.length ≤ 100) && (decide ((Dat.allL m.consts : Int) ≤ 2000) && (decide ((m.body.all : Int) ≤ n) && fewC n m.codes m.body.all)))
theorem fewC_step {n k : Int} {l : List Cod} {j : Nat} {c : Cod} (h : l[j]? = some c) : fewC n (l.drop j) k = (decide ((c.body.all : Int) ≤ n) && (decide (k + c.body.all ≤ n) && fewC n (l.drop (j + 1)) (k + c.body.all))) := by
  obtain ⟨hj, he⟩ := List.getElem?_eq_some_iff.1 h
  rw [List.drop_eq_getElem_cons hj, he, fewC]
theorem fewC_mem {n : Int} : ∀ {l : List Cod} {k : Int}, fewC n l k = true → ∀ c ∈ l, (c.body.all : Int) ≤ n
  | [], _, _, c, h => by simp at h
  | x :: l, k, h, c, hc => by
    rw [fewC] at h
    simp only [Bool.and_eq_true, decide_eq_true_eq] at h
    rcases List.mem_cons.1 hc with rfl | hc
    · exact h.1
    · exact fewC_mem h.2.2 c hc
theorem fewC_sum {n : Int} : ∀ {l : List Cod} {k : Int}, fewC n l k = true → k ≤ n → k + ((l.map fun c => c.body.all).sum : Nat) ≤ n
  | [], _, _, hk => by simpa using hk
  | x :: l, k, h, _ => by
    rw [fewC] at h
    simp only [Bool.and_eq_true, decide_eq_true_eq] at h
    have := fewC_sum h.2.2 h.2.1
    simp only [List.map_cons, List.sum_cons]
    omega
theorem few_facts {m : Mdl} {n : Int} (h : m.fewB n = true) : m.codes.length ≤ 50 ∧ m.consts.length ≤ 100 ∧ (Dat.allL m.consts : Int) ≤ 2000 ∧ (m.body.all : Int) ≤ n ∧ (∀ c ∈ m.codes, (c.body.all : Int) ≤ n) ∧ (m.body.all : Int) + ((m.codes.map fun c => c.body.all).sum : Nat) ≤ n := by
  simp only [fewB, Bool.and_eq_true, decide_eq_true_eq] at h
  obtain ⟨h1, h2, h3, h4, h5⟩ := h
  exact ⟨h1, h2, h3, h4, fewC_mem h5, fewC_sum h5 h4⟩
end Mdl

set_option maxHeartbeats 8000000 in
set_option maxRecDepth 100000 in
theorem few14_any (m : Mdl) (v : Value) (n : Int) (B : Nat) (w : World) (hv : MdlR w B m v) (hB : B ≤ w.heap.size) (h0 : 0 ≤ n) (h1 : n ≤ 900) (r : Bool) (hr : m.fewB n = r) :
    Calls Tryz.prog 14 #[v, .int .i64 n] w fun e w' => e = .returned (.bool r) ∧ Below w.heap.size w w' := by
  obtain ⟨cc, pp, b0, b1, b2, b3, rfl, hcon, hcod, hbody⟩ := hv
  obtain ⟨oc, lc, kc, rfl⟩ : ∃ o l c, cc = .slice o l c := by obtain ⟨o, l, c, h, _⟩ := hcon; exact ⟨o, l, c, h⟩
  have hlc : lc = m.consts.length := by
    obtain ⟨o, l, c, h, h2, _⟩ := hcon
    simp only [Value.slice.injEq] at h
    obtain ⟨rfl, rfl, rfl⟩ := h
    exact h2
  obtain ⟨op, lp, kp, rfl⟩ := hcod.form
  obtain ⟨hlp, hkp, hmp⟩ := hcod.lens
  obtain ⟨q, r', u, q', r'', u', rfl, rfl, rfl, rfl⟩ := trm_form hbody
  obtain ⟨W1, hW1⟩ : ∃ W1, w.alloc (.cells #[.slice oc lc kc, .slice op lp kp, .int .i64 m.body.op, .int .i64 m.body.n, .slice q r' u, .slice q' r'' u'] 43) = W1 := ⟨_, rfl⟩
  have HB1 := Lib.hid (show Below w.heap.size w W1 from by rw [← hW1]; exact Below.one w _)
  have HX1 := Lib.hid (show BoxL W1 w.heap.size 43 [.slice oc lc kc, .slice op lp kp, .int .i64 m.body.op, .int .i64 m.body.n, .slice q r' u, .slice q' r'' u'] from by rw [← hW1]; exact BoxL.new rfl _ _)
  have HW := Lib.hid hW1
  have HCON := Lib.hid hcon
  have HCOD := Lib.hid hcod
  have HBODY := Lib.hid hbody
  have HLP := Lib.hid hlp
  have u0 := HX1.out.cell 0 rfl
  have u1 := HX1.out.cell 1 rfl
  have u2 := HX1.out.cell 2 rfl
  have u3 := HX1.out.cell 3 rfl
  have u4 := HX1.out.cell 4 rfl
  have u5 := HX1.out.cell 5 rfl
  have ul := HX1.out.lt
  by_cases c1 : 50 < lp
  · obtain rfl : false = r := by
      rw [← hr, Mdl.fewB, ← hlp, decide_eq_false (show ¬ lp ≤ 50 by omega)]; rfl
    have d1 : decide ((50 : Int) < (lp : Int)) = true := decide_eq_true (by omega)
    clear hr hlp hlc hcon hcod hbody hW1
    go_enter Tryz.func14, Tryz.ntmps14
    go_upto_region 1 with fail
    rw [HW.out]
    go_wp2_with fail
    all_goals go_ret
    all_goals exact ⟨rfl, HB1.out⟩
  have d1 : decide ((50 : Int) < (lp : Int)) = false := decide_eq_false (by omega)
  by_cases c2 : 100 < lc
  · obtain rfl : false = r := by
      rw [← hr, Mdl.fewB, ← hlc, decide_eq_false (show ¬ lc ≤ 100 by omega)]; simp
    have d2 : decide ((100 : Int) < (lc : Int)) = true := decide_eq_true (by omega)
    clear hr hlp hlc hcon hcod hbody hW1
    go_enter Tryz.func14, Tryz.ntmps14
    go_upto_region 1 with fail
    rw [HW.out]
    go_wp2_with fail
    all_goals go_ret
    all_goals exact ⟨rfl, HB1.out⟩
  have d2 : decide ((100 : Int) < (lc : Int)) = false := decide_eq_false (by omega)
  obtain ⟨f1, hf1⟩ : ∃ f1, decide ((Dat.allL m.consts : Int) ≤ 2000) = f1 := ⟨_, rfl⟩
  obtain ⟨f2, hf2⟩ : ∃ f2, decide ((m.body.all : Int) ≤ n) = f2 := ⟨_, rfl⟩
  have HR := Lib.hid (show (f1 && (f2 && Mdl.fewC n m.codes m.body.all)) = r from by rw [← hr, Mdl.fewB, ← hlp, ← hlc, decide_eq_true (show lp ≤ 50 by omega), decide_eq_true (show lc ≤ 100 by omega), hf1, hf2]; rfl)
  have HC1 := Lib.hid (rfewAll_to m.consts (.slice oc lc kc) 2000 B W1 (HCON.out.kept (HB1.out.mono hB)) (by have := HB1.out.size; omega) (by omega) (by omega) f1 hf1)
  have HF2 := Lib.hid hf2
  clear hr hlp hlc hcon hcod hbody hW1 hf1 hf2
  go_enter Tryz.func14, Tryz.ntmps14
  go_upto_region 1 with fail
  rw [HW.out]
  go_wp2_with fail
  with_reducible refine HC1.out.mono ?_
  rintro e w2 ⟨rfl, hb2⟩
  have HB2 := Lib.hid (HB1.out.trans (hb2.mono HB1.out.size))
  have HX2 := Lib.hid (HX1.out.keep hb2)
  clear hb2 HC1 u0 u1 u2 u3 u4 u5 ul
  cases f1 with
  | false =>
    obtain rfl : r = false := by rw [← HR.out]; rfl
    go_wp2_with fail
    all_goals go_ret
    all_goals exact ⟨rfl, HB2.out⟩
  | true =>
    have u2 := HX2.out.cell 2 rfl
    have u3 := HX2.out.cell 3 rfl
    have u4 := HX2.out.cell 4 rfl
    have u5 := HX2.out.cell 5 rfl
    have ul := HX2.out.lt
    have HC2 := Lib.hid (tFew_any m.body _ _ _ _ n B w2 (TrmR.kept (HB2.out.mono hB) _ _ HBODY.out) (by have := HB2.out.size; omega) h0 (by omega))
    rw [HF2.out] at HC2
    go_wp2_with fail
    with_reducible refine HC2.out.mono ?_
    rintro e w3 ⟨rfl, hb3⟩
    have HB3 := Lib.hid (HB2.out.trans (hb3.mono HB2.out.size))
    have HX3 := Lib.hid (HX2.out.keep hb3)
    clear hb3 HC2 u2 u3 u4 u5 ul
    cases f2 with
    | false =>
      obtain rfl : r = false := by rw [← HR.out]; rfl
      go_wp2_with fail
      all_goals go_ret
      all_goals exact ⟨rfl, HB3.out⟩
    | true =>
      have HF := Lib.hid (show Mdl.fewC n m.codes m.body.all = r from by rw [← HR.out]; rfl)
      have u2 := HX3.out.cell 2 rfl
      have u3 := HX3.out.cell 3 rfl
      have u4 := HX3.out.cell 4 rfl
      have u5 := HX3.out.cell 5 rfl
      have ul := HX3.out.lt
      have hbn : (m.body.all : Int) ≤ n := of_decide_eq_true HF2.out
      have HC3 := Lib.hid (tSize_any m.body _ _ _ _ B w3 (TrmR.kept (HB3.out.mono hB) _ _ HBODY.out) (by have := HB3.out.size; omega) (by omega))
      obtain ⟨k0, hk0⟩ : ∃ k0, m.body.all = k0 := ⟨_, rfl⟩
      rw [hk0] at HC3 HF hbn
      clear hk0
      go_wp2_with fail
      with_reducible refine HC3.out.mono ?_
      rintro e w4 ⟨rfl, hb4⟩
      have HB4 := Lib.hid (HB3.out.trans (hb4.mono HB3.out.size))
      have HX4 := Lib.hid (HX3.out.keep hb4)
      clear hb4 HC3 u2 u3 u4 u5 ul
      go_wp2_with fail
      go_loopg [5, 6] lp (fun g a i wr => ∃ (j : Nat) (k : Int), g = lp - j ∧ j ≤ lp ∧ a = .int .i64 k ∧ i = .int .i64 j ∧ 0 ≤ k ∧ k ≤ n ∧ Hid (Mdl.fewC n (m.codes.drop j) k = r) ∧ Hid (Below w4.heap.size w4 wr))
      case atStart => exact ⟨0, k0, rfl, by omega, rfl, rfl, by omega, hbn, HF, Lib.hid (Below.refl _ _)⟩
      case round =>
        obtain ⟨j, k, rfl, hj, rfl, rfl, hk0, hk1, HS, HBR⟩ := hrel
        have HXR := Lib.hid (HX4.out.keep HBR.out)
        have HBW := Lib.hid (HB4.out.trans (HBR.out.mono HB4.out.size))
        have u1 := HXR.out.cell 1 rfl
        have ul := HXR.out.lt
        by_cases hjl : j < lp
        · obtain ⟨c, hx⟩ : ∃ c, m.codes[j]? = some c := ⟨_, List.getElem?_eq_getElem (by rw [← HLP.out]; exact hjl)⟩
          obtain ⟨b, off, cs, ho, _, hcl, hcell, hcr⟩ := HCOD.out.at (HBW.out.mono hB) hx
          subst ho
          obtain ⟨vs, d0, d1, d2, d3, rfl, _, hir⟩ := hcr
          have e2 := hcell 2 _ rfl
          have e3 := hcell 3 _ rfl
          have e4 := hcell 4 _ rfl
          have e5 := hcell 5 _ rfl
          have HST := Lib.hid (Mdl.fewC_step (n := n) (k := k) hx)
          obtain ⟨q3, hq3⟩ : ∃ q3, decide ((c.body.all : Int) ≤ n) = q3 := ⟨_, rfl⟩
          have HI := Lib.hid (TrmR.kept (HBW.out.mono hB) _ _ hir)
          have HCA := Lib.hid (tFew_any c.body d0 d1 d2 d3 n B wr HI.out (by have := HBW.out.size; omega) h0 (by omega))
          rw [hq3] at HCA HST
          have HQ3 := Lib.hid hq3
          have hbl := cell_lt e2
          clear hx hcell hcl hir hq3
          go_wp2_with fail
          with_reducible refine HCA.out.mono ?_
          rintro e w5 ⟨rfl, hb5⟩
          have HB5 := Lib.hid (HBR.out.trans (hb5.mono HBR.out.size))
          have HX5 := Lib.hid (HXR.out.keep hb5)
          have E2 := Lib.hid ((hb5.cell (p := ⟨b, off + j * 6 + 2, none⟩) hbl).trans e2)
          have E3 := Lib.hid ((hb5.cell (p := ⟨b, off + j * 6 + 3, none⟩) hbl).trans e3)
          have E4 := Lib.hid ((hb5.cell (p := ⟨b, off + j * 6 + 4, none⟩) hbl).trans e4)
          have E5 := Lib.hid ((hb5.cell (p := ⟨b, off + j * 6 + 5, none⟩) hbl).trans e5)
          have HI5 := Lib.hid (TrmR.kept (hb5.mono (by have := HBW.out.size; omega)) _ _ HI.out)
          have hz5 := hb5.size
          clear hb5 HCA u1 ul e2 e3 e4 e5 HI
          cases q3 with
          | false =>
            obtain rfl : r = false := by rw [← HS.out, HST.out]; rfl
            go_wp2_with fail
            all_goals go_ret
            all_goals exact ⟨rfl, HB4.out.trans (HB5.out.mono HB4.out.size)⟩
          | true =>
            have e2 := E2.out
            have e3 := E3.out
            have e4 := E4.out
            have e5 := E5.out
            have u1 := HX5.out.cell 1 rfl
            have ul := HX5.out.lt
            have hcn : (c.body.all : Int) ≤ n := of_decide_eq_true HQ3.out
            have HCS := Lib.hid (tSize_any c.body d0 d1 d2 d3 B w5 HI5.out (by have := HBW.out.size; omega) (by omega))
            obtain ⟨kc2, hkc⟩ : ∃ kc2, c.body.all = kc2 := ⟨_, rfl⟩
            rw [hkc] at HCS HST hcn
            clear hkc
            go_wp2_with fail
            with_reducible refine HCS.out.mono ?_
            rintro e w6 ⟨rfl, hb6⟩
            have HB6 := Lib.hid (HB5.out.trans (hb6.mono HB5.out.size))
            clear hb6 HCS u1 ul e2 e3 e4 e5
            by_cases a4 : n < k + (kc2 : Int)
            · have f4 : decide (n < k + (kc2 : Int)) = true := decide_eq_true a4
              obtain rfl : r = false := by rw [← HS.out, HST.out, decide_eq_false (show ¬ k + (kc2 : Int) ≤ n by omega)]; rfl
              go_wp2_with fail
              all_goals go_ret
              all_goals exact ⟨rfl, HB4.out.trans (HB6.out.mono HB4.out.size)⟩
            · have f4 : decide (n < k + (kc2 : Int)) = false := decide_eq_false a4
              have HS2 := Lib.hid (show Mdl.fewC n (m.codes.drop (j + 1)) (k + kc2) = r from by rw [← HS.out, HST.out, decide_eq_true (show k + (kc2 : Int) ≤ n by omega)]; rfl)
              go_wp2_with fail
              go_roundg (lp - (j + 1))
              case measure => omega
              case rel => exact ⟨j + 1, k + kc2, rfl, by omega, rfl, by go_num, by omega, by omega, HS2, HB6⟩
        · obtain rfl : j = lp := by omega
          obtain rfl : r = true := by rw [← HS.out, List.drop_eq_nil_of_le (by rw [← HLP.out]; exact Nat.le_refl _)]; rfl
          go_wp2_with fail
          all_goals go_ret
          all_goals exact ⟨rfl, HBW.out⟩
end Go.Proofs.YtigkhmppnnljiaaGreatDoor

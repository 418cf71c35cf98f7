/-
  What the proofs lean on: MkLive, RChk.
-/
import Derived.Test.YtigkhmppnnljiaaGreatDoorPreA03
import Derived.Test.YtigkhmppnnljiaaGreatDoorPreA24
set_option maxRecDepth 100000
set_option maxHeartbeats 16000000
namespace Go.Proofs.YtigkhmppnnljiaaGreatDoor
section
namespace Mk
open Unt (named gives)
open Peep (succs)
theorem Fwd.succ {e k : Nat} {x : Ins} (h : Fwd e k x) (hk : k < e) {j : Nat} (hj : j ∈ succs x k) : k < j ∧ j ≤ e := by
 simp only [succs, List.mem_append] at hj
 rcases hj with hj | hj
 ·split at hj
  ·obtain rfl : j = k + 1 := by simpa using hj
   omega
  ·simp at hj
 ·split at hj
  ·rename_i h15
   have := h.2.1 h15
   obtain rfl : j = x.a.toNat := by simpa using hj
   omega
  ·split at hj
   ·rename_i h16
    have := h.2.2 h16
    obtain rfl : j = x.b.toNat := by simpa using hj
    omega
   ·simp at hj
theorem succs_end {x : Ins} {k : Nat} (h : 19 ≤ x.op ∧ x.op ≤ 22) : succs x k = [] := by
 have h15 : x.op ≠ 15 := by omega
 have h16 : x.op ≠ 16 := by omega
 have h19 : ¬ x.op < 19 := by omega
 simp [succs, h15, h16, h19]
theorem FragE.within {G : Int → Prop} {b : Nat} {s : List Ins} (h : FragE G b s) : AllAt (fun k x => ∀ j ∈ succs x k, k < j ∧ j < b + s.length) b s := by
 induction h with
 | one G b x h1 h2 => exact ⟨fun j hj => by rw [succs_end h1] at hj; simp at hj, trivial⟩
 | @cat G E b s t h1 h2 ih =>
  obtain ⟨y, l, ht, _⟩ := h2.head
  have hl : 0 < t.length := by rw [ht]; simp
  rw [List.length_append, ← Nat.add_assoc]
  exact (h1.fwd.imp fun k x _ hk h j hj => by have := h.succ hk hj; omega).append ih
 | @cond G b s t c hc h1 h2 ih1 ih2 =>
  obtain ⟨y, l, ht, _⟩ := h1.head
  have hl1 : 0 < s.length := by rw [ht]; simp
  obtain ⟨y, l, ht, _⟩ := h2.head
  have hl : 0 < t.length := by rw [ht]; simp
  simp only [List.length_cons, List.length_append]
  refine ⟨fun j hj => ?_, (ih1.imp fun k x _ _ h j hj => by have := h j hj; omega).append (ih2.imp fun k x _ _ h j hj => by have := h j hj; omega)⟩
  have hj : j = b + 1 ∨ j = b + 1 + s.length := by simp [succs] at hj; omega
  omega
end Mk
end
section
namespace Trm
mutual
def rchk (nc nk : Int) (fr : Bool) : Trm → List Int → Int → Int × List Int → Option (Int × List Int)
 | mk op n v t, sc, deep, s =>
  if (decide (deep ≤ 400) && (decide (s.1 + 1 ≤ 20000) && (sortB op && (countsB op v.length t.length && numberB nc nk fr (fun x => sc.contains x) op n)))) = true then
   (if newB (fun _ => false) (s.2 ++ v) = true then rchkL nc nk fr op v t sc deep (s.1 + 1, s.2 ++ v) else none)
  else none
def rchkL (nc nk : Int) (fr : Bool) : Int → List Int → List Trm → List Int → Int → Int × List Int → Option (Int × List Int)
 | _, _, [], _, _, s => some s
 | _, v, [x], sc, deep, s => rchk nc nk fr x (sc ++ v) (deep + 1) s
 | op, v, x :: y :: l, sc, deep, s =>
  if op = 9 ∧ x.op ≠ 19 then none
  else match rchk nc nk fr x (if op = 9 then sc ++ v else sc) (deep + 1) s with
   | some s' => rchkL nc nk fr op v (y :: l) sc deep s'
   | none => none
end
theorem addV_contains (sc v : List Int) : addV (fun x => sc.contains x) v = fun x => (sc ++ v).contains x := by
 funext x
 simp [addV, Bool.decide_or]
def RSay (x : Trm) : Prop := ∀ (nc nk : Int) (fr : Bool) (sc : List Int) (deep : Int) (s r : Int × List Int), newB (fun _ => false) s.2 = true → rchk nc nk fr x sc deep s = some r → wf nc nk fr x (fun y => sc.contains y) = true ∧ r = (s.1 + x.all, s.2 ++ x.bnd) ∧ newB (fun _ => false) (s.2 ++ x.bnd) = true ∧ s.1 + x.all ≤ 20000
theorem rsayL : ∀ (t : List Trm), (∀ x ∈ t, RSay x) → ∀ (op : Int) (v : List Int) (nc nk : Int) (fr : Bool) (sc : List Int) (deep : Int) (s r : Int × List Int), newB (fun _ => false) s.2 = true → s.1 ≤ 20000 → rchkL nc nk fr op v t sc deep s = some r → wfL nc nk fr op v t (fun y => sc.contains y) = true ∧ r = (s.1 + allL t, s.2 ++ bndL t) ∧ newB (fun _ => false) (s.2 ++ bndL t) = true ∧ s.1 + allL t ≤ 20000
 | [], _, op, v, nc, nk, fr, sc, deep, s, r, hn, hs, h => by
  rw [rchkL] at h
  obtain rfl := Option.some.inj h
  simp only [wfL, allL, bndL, List.append_nil]
  exact ⟨trivial, by simp, hn, by simpa using hs⟩
 | [x], ih, op, v, nc, nk, fr, sc, deep, s, r, hn, hs, h => by
  rw [rchkL] at h
  have h1 := ih x (by simp) nc nk fr _ _ s r hn h
  rw [wfL, addV_contains]
  simpa [allL, bndL] using h1
 | x :: y :: l, ih, op, v, nc, nk, fr, sc, deep, s, r, hn, hs, h => by
  rw [rchkL] at h
  by_cases h9 : op = 9 ∧ x.op ≠ 19
  ·rw [if_pos h9] at h; cases h
  rw [if_neg h9] at h
  cases hx : rchk nc nk fr x (if op = 9 then sc ++ v else sc) (deep + 1) s with
  | none => rw [hx] at h; cases h
  | some s' =>
   rw [hx] at h
   have h1 := ih x (by simp) nc nk fr _ _ s s' hn hx
   obtain ⟨h1, rfl, h3, h4⟩ := h1
   have h2 := rsayL (y :: l) (fun z hz => ih z (by simp [hz])) op v nc nk fr sc deep _ r h3 h4 h
   obtain ⟨g1, rfl, g3, g4⟩ := h2
   rw [wfL]
   refine ⟨?_, ?_, ?_, ?_⟩
   ·rw [g1, Bool.and_true]
    by_cases ho : op = 9
    ·rw [if_pos ho] at h1 ⊢
     have : x.op = 19 := by
      by_cases hx9 : x.op = 19
      ·exact hx9
      ·exact absurd ⟨ho, hx9⟩ h9
     rw [addV_contains, h1, this]
     rfl
    ·rw [if_neg ho] at h1 ⊢
     exact h1
   ·rw [allL.eq_2 x, bndL.eq_2 x]
    simp only [List.append_assoc, Prod.mk.injEq, and_true]
    omega
   ·rw [bndL.eq_2 x]
    simpa only [List.append_assoc] using g3
   ·rw [allL.eq_2 x]
    dsimp only at g4
    omega
theorem rsay (x : Trm) : RSay x := by
 induction x using Trm.ind with
 | _ op n v t ih =>
 intro nc nk fr sc deep s r hn h
 rw [rchk] at h
 split at h
 ·rename_i hc
  split at h
  ·rename_i hv
   simp only [Bool.and_eq_true, decide_eq_true_eq] at hc
   obtain ⟨_, h2, h3, h4, h5⟩ := hc
   have h6 := rsayL t ih op v nc nk fr sc deep _ r hv h2 h
   obtain ⟨g1, rfl, g3, g4⟩ := h6
   rw [wf, h3, h4, h5, g1]
   refine ⟨rfl, ?_, ?_, ?_⟩
   ·rw [all, bnd]
    simp only [List.append_assoc, Prod.mk.injEq, and_true]
    omega
   ·rw [bnd]
    simpa only [List.append_assoc] using g3
   ·rw [all]
    dsimp only at g4
    omega
  ·cases h
 ·cases h
end Trm
namespace Mdl
def rcodes (nc nk : Int) : List Cod → Int × List Int → Option (Int × List Int)
 | [], s => some s
 | c :: l, s =>
  if (Trm.newB (fun _ => false) (s.2 ++ c.v) && (!c.rest || decide (0 < c.v.length))) = true then
   (match Trm.rchk nc nk true c.body c.v 0 (s.1, s.2 ++ c.v) with
    | some s' => rcodes nc nk l s'
    | none => none)
  else none
def rokB (m : Mdl) : Bool := (m.consts.all fun x => Dat.right x 0) && (match Trm.rchk m.consts.length m.codes.length false m.body [] 0 (0, []) with
 | some s => (rcodes m.consts.length m.codes.length m.codes s).isSome
 | none => false)
end Mdl
end
end Go.Proofs.YtigkhmppnnljiaaGreatDoor

/-
  The walk of DatumSizes.
-/
import Derived.Test.YtnpiekniignfcaaGreatDoorAwakes
import Derived.Test.YtnpiekniignfcaaGreatDoorRights
import Derived.Deep.LoopGhost
import Derived.Test.YtnpiekniignfcaaGreatDoorOpens
import Derived.OwnWalk
import Derived.IntWalk
import Derived.Laws.OwnMore
import Derived.Test.YtnpiekniignfcaaGreatDoorSames
import Derived.Test.YtnpiekniignfcaaGreatDoorPlain
import Derived.BigRegion
namespace Go.Proofs.YtnpiekniignfcaaGreatDoor
open Go.RowKit

theorem sizeL_eq (deep : Nat) (hd : deep + 100 ≤ 1000) : ∀ l : List Dat, (∀ x ∈ l, Dat.all x ≤ 100) → Dat.sizeL l deep = Dat.allL l
  | [], _ => rfl
  | x :: l, h => by
    rw [Dat.sizeL, Dat.allL, sizeL_eq deep hd l (fun y hy => h y (by simp [hy])), Dat.size_eq x deep (by have := h x (by simp); omega)]
theorem allL_step {l : List Dat} {j : Nat} {x : Dat} (h : l[j]? = some x) : Dat.allL (l.take (j + 1)) = Dat.allL (l.take j) + Dat.all x := by
  rw [List.take_add_one, h]
  show Dat.allL (l.take j ++ [x]) = _
  rw [Dat.allL_append]; simp [Dat.allL]
theorem allL_le {l : List Dat} {b : Nat} (h : ∀ x ∈ l, Dat.all x ≤ b) : Dat.allL l ≤ l.length * b := by
  induction l with
  | nil => simp [Dat.allL]
  | cons x l ih =>
    have h1 := h x (by simp)
    have h2 := ih (fun y hy => h y (by simp [hy]))
    simp only [Dat.allL, List.length_cons]
    rw [Nat.succ_mul]; omega

/-- A list's size needs no bound on it as a whole. -/
theorem all_list (l : List Dat) : Dat.all (Dat.list l) = Dat.allL l + 2 * l.length - l.length + 1 := by
  induction l with
  | nil => rfl
  | cons x l ih => simp only [Dat.list, Dat.pair, Dat.all, Dat.allL, ih, List.length_cons]; omega

end Go.Proofs.YtnpiekniignfcaaGreatDoor

namespace Go.Proofs.YtnpiekniignfcaaGreatDoor
open Go.RowKit

theorem dright_to (x : Dat) (v : Value) (B : Nat) (w : World) (r : Bool) (hr : Dat.right x 0 = r) (hv : RepD w B x v) (hB : B ≤ w.heap.size) :
    Calls Tryz.prog 16 #[v] w fun e w' => e = .returned (.bool r) ∧ Below w.heap.size w w' := by
  rw [← hr]; exact dright_any x v B w hv hB

theorem and_1023 (x : Int) : ∃ m : Nat, bits .and .i64 x 1023 = (m : Int) ∧ m ≤ 1023 := by
  refine ⟨(BitVec.ofInt 64 x).toNat &&& 1023, ?_, Nat.and_le_right⟩
  show IntKind.i64.wrap ((BitVec.ofInt 64 x &&& BitVec.ofInt 64 1023).toNat : Int) = _
  have h1 : (BitVec.ofInt 64 1023).toNat = 1023 := by decide
  rw [BitVec.toNat_and, h1]
  have := Nat.and_le_right (n := (BitVec.ofInt 64 x).toNat) (m := 1023)
  exact IntWalk.i64_in _ (by omega)
theorem index_1023 (x : Int) (len : Nat) (h : 0 < len) : ∃ q : Nat, (bits .and .i64 x 1023).tmod (len : Int) = (q : Int) ∧ q < len := by
  obtain ⟨m, hm, _⟩ := and_1023 x
  refine ⟨m % len, ?_, Nat.mod_lt _ h⟩
  rw [hm, Int.tmod_eq_emod_of_nonneg (by omega)]
  exact (Int.natCast_emod m len).symm

theorem grownBy_setCell4 (W : World) (b : Nat) (v : Value) : W.grownBy (W.setCell ⟨b, 4, none⟩ v) (some b) :=
  ⟨rfl, rfl, rfl, (KeepsWalks.setCell W _ v).size, fun k _ hk => Below.heap_setCell _ _ _ k (fun e => hk (by rw [e]))⟩

theorem allL_len (l : List Dat) : l.length ≤ Dat.allL l := by
  induction l with
  | nil => simp
  | cons x l ih => have := Dat.all_pos x; simp only [Dat.allL, List.length_cons]; omega

/-- With a part that is wrong a datum is wrong. -/
theorem wrong_part {k n d : Int} {s : ByteArray} {l : List Dat} {i : Nat} (hi : i < l.length) (n' d' : Int) (s' : ByteArray) (l' : List Dat) : Dat.right (.mk k n d s (l.set i (.mk 9 n' d' s' l'))) 0 = false := by
  cases h : Dat.right (.mk k n d s (l.set i (.mk 9 n' d' s' l'))) 0 with
  | false => rfl
  | true =>
    have := Dat.right_part h (y := .mk 9 n' d' s' l') (by simp [Dat.l]; exact List.mem_set hi _)
    simp [Dat.right, Dat.head] at this

end Go.Proofs.YtnpiekniignfcaaGreatDoor

namespace Go.Proofs.YtnpiekniignfcaaGreatDoor
open Go.RowKit

/-- The five cells of a datum that lies in a box. -/
def Five (w : World) (b : Nat) (v0 v1 v2 v3 v4 : Value) : Prop :=
  w.cell? ⟨b, 0, none⟩ = some v0 ∧ w.cell? ⟨b, 1, none⟩ = some v1 ∧ w.cell? ⟨b, 2, none⟩ = some v2 ∧ w.cell? ⟨b, 3, none⟩ = some v3 ∧ w.cell? ⟨b, 4, none⟩ = some v4
theorem Five.kept {w w' : World} {b : Nat} {v0 v1 v2 v3 v4 : Value} (h : Five w b v0 v1 v2 v3 v4) (hb : Below w.heap.size w w') : Five w' b v0 v1 v2 v3 v4 := by
  have hlt := cell_lt h.1
  have g : ∀ o, w'.cell? ⟨b, o, none⟩ = w.cell? ⟨b, o, none⟩ := fun o => hb.cell (p := ⟨b, o, none⟩) hlt
  exact ⟨(g _).trans h.1, (g _).trans h.2.1, (g _).trans h.2.2.1, (g _).trans h.2.2.2.1, (g _).trans h.2.2.2.2⟩

theorem alike_ext {s s' : ByteArray} (h : s.toList = s'.toList) : s = s' := by
  apply ByteArray.ext; apply Array.ext'
  rw [← ByteArray.toList_eq, ← ByteArray.toList_eq]; exact h
theorem full_right {x : Dat} (h : Dat.right x 0 = true) : Dat.full x = Dat.text x false := by unfold Dat.full; rw [h]; rfl
theorem full_wrong {x : Dat} (h : Dat.right x 0 = false) : Dat.full x = [] := by unfold Dat.full; rw [h]; rfl

/-- Two right data are alike if and only if their texts are one. -/
theorem alike_full {x y : Dat} (hx : Dat.right x 0 = true) (hy : Dat.right y 0 = true) : Dat.alike x y = decide ((⟨(Dat.full x).toArray⟩ : ByteArray) = ⟨(Dat.full y).toArray⟩) := by
  rw [Bool.eq_iff_iff, Dat.alike_iff, decide_eq_true_eq, full_right hx, full_right hy]
  constructor
  · rintro rfl; rfl
  · intro h
    refine Dat.text_inj hx hy ?_
    have := congrArg (fun b : ByteArray => b.data.toList) h
    simpa using this

end Go.Proofs.YtnpiekniignfcaaGreatDoor

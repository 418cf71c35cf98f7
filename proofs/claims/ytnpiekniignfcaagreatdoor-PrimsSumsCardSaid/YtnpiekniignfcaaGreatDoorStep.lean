/-
  The contracts of prims.whole, truth, step.
-/
import Derived.Test.YtnpiekniignfcaaGreatDoorFoldLaw
import Derived.Test.YtnpiekniignfcaaGreatDoorListUp
import Derived.Test.YtnpiekniignfcaaGreatDoorBoxes
import Derived.Test.YtnpiekniignfcaaGreatDoorNums
import Derived.Test.YtnpiekniignfcaaGreatDoorRights
import Derived.Test.YtnpiekniignfcaaGreatDoorAwakes
namespace Go.Proofs.YtnpiekniignfcaaGreatDoor
open Go.RowKit

/-- A leaf's value. -/
def leafV (k n d : Int) : Value := .agg #[.int .i64 k, .int .i64 n, .int .i64 d, .string ⟨#[]⟩, .slice none 0 0]

/-- A datum and an end are handed back; the datum's parts lie in blocks below B2. -/
def EndPost (B2 : Nat) (r : Dat × Int) (w : World) (e : Ending) (w' : World) : Prop := ∃ (k n d : Int) (s : ByteArray) (o : Option Addr) (len cap : Nat), e = .returned (.tuple #[.agg #[.int .i64 k, .int .i64 n, .int .i64 d, .string s, .slice o len cap], .int .i64 r.2]) ∧ RepD w' B2 r.1 (.agg #[.int .i64 k, .int .i64 n, .int .i64 d, .string s, .slice o len cap]) ∧ Below w.heap.size w w'

theorem endPost_leaf {B2 : Nat} {x : Dat} {e k n d : Int} {w w' : World} (hk : -9223372036854775808 ≤ k ∧ k ≤ 9223372036854775807) (hn : -9223372036854775808 ≤ n ∧ n ≤ 9223372036854775807) (hd : -9223372036854775808 ≤ d ∧ d ≤ 9223372036854775807) (hx : x = .mk k n d ⟨#[]⟩ []) (hb : Below w.heap.size w w') : EndPost B2 (x, e) w (.returned (.tuple #[leafV k n d, .int .i64 e])) w' :=
  ⟨k, n, d, ⟨#[]⟩, none, 0, 0, rfl, by rw [hx]; exact rep_leaf k n d ⟨#[]⟩ hk hn hd (by decide), hb⟩

theorem whole_any (n : Int) (w : World) : Calls Tryz.prog 52 #[.int .i64 n] w fun e w' => e = .returned (leafV 0 n 1) ∧ Below w.heap.size w w' := by
  go_enter Tryz.func52, Tryz.ntmps52
  go_wp2_with fail
  exact bodyPost_ret (v := leafV 0 n 1) (by simp [results, Tryz.results52, go_sem, leafV]) rfl ⟨rfl, (Below.refl _ _).alloc (Nat.le_refl _) _⟩

theorem truth_any (b : Bool) (w : World) : Calls Tryz.prog 47 #[.bool b] w fun e w' => e = .returned (leafV 1 (if b then 1 else 0) 0) ∧ Below w.heap.size w w' := by
  cases b
  all_goals
    go_enter Tryz.func47, Tryz.ntmps47
    go_wp2_with fail
  · exact bodyPost_ret (v := leafV 1 0 0) (by simp [results, Tryz.results47, go_sem, leafV]) rfl ⟨rfl, (Below.refl _ _).alloc (Nat.le_refl _) _⟩
  · exact bodyPost_ret (v := leafV 1 1 0) (by simp [results, Tryz.results47, go_sem, leafV]) rfl ⟨rfl, (Below.refl _ _).alloc (Nat.le_refl _) _⟩

set_option maxHeartbeats 1000000 in
set_option maxRecDepth 100000 in
theorem step_0 (ka na da kb nb db : Int) (sa sb : ByteArray) (oa ob : Option Addr) (la ca lb cb : Nat) (x y z : Int) (hq : Prims.step 0 na da nb db = (x, y, z)) (h0 : -9223372036854775808 ≤ na) (h1 : na ≤ 9223372036854775807) (h2 : -9223372036854775808 ≤ da) (h3 : da ≤ 9223372036854775807) (h4 : -9223372036854775808 ≤ nb) (h5 : nb ≤ 9223372036854775807) (h6 : -9223372036854775808 ≤ db) (h7 : db ≤ 9223372036854775807) (w : World) :
    Calls Tryz.prog 69 #[.int .i64 0, .agg #[.int .i64 ka, .int .i64 na, .int .i64 da, .string sa, .slice oa la ca], .agg #[.int .i64 kb, .int .i64 nb, .int .i64 db, .string sb, .slice ob lb cb]] w fun e w' => e = .returned (.tuple #[leafV 0 x y, .int .i64 z]) ∧ Below w.heap.size w w' := by
  have HQ := Lib.hid (fun W => add_to na da nb db x y z (by simpa [Prims.step] using hq) h0 h1 h2 h3 h4 h5 h6 h7 W)
  clear hq
  have HK := Lib.hid (fun X Y Z => (((Below.refl w.heap.size w).alloc (Nat.le_refl _) X).alloc (by simp) Y).alloc (by simp; omega) Z)
  have HX := Lib.hid (fun X Y => (show Box5 (((w.alloc X).alloc Y).alloc (.cells #[.int .i64 0, .int .i64 0, .int .i64 0, .string ⟨#[]⟩, .slice none 0 0] 26)) (w.heap.size + 2) 26 (.int .i64 0) (.int .i64 0) (.int .i64 0) (.string ⟨#[]⟩) (.slice none 0 0) by
    have := Box5.new ((w.alloc X).alloc Y) 26 (.int .i64 0) (.int .i64 0) (.int .i64 0) (.string ⟨#[]⟩) (.slice none 0 0)
    rwa [World.size_alloc, World.size_alloc] at this))
  go_enter Tryz.func69, Tryz.ntmps69
  go_wp2_with fail
  refine (HQ.out _).mono ?_
  rintro e1 w1 ⟨rfl, nk, hw1⟩
  have hb1 : Below w.heap.size w w1 := by rw [hw1]; exact Below.drewN (HK.out _ _ _) _
  have hbox : Box5 w1 (w.heap.size + 2) 26 (.int .i64 0) (.int .i64 0) (.int .i64 0) (.string ⟨#[]⟩) (.slice none 0 0) := by rw [hw1]; exact ((Below.selfN _ _).block _ (by simp)).trans (HX.out _ _)
  clear hw1
  obtain ⟨q0, q1, q2, q3, q4⟩ := hbox.cells
  obtain ⟨z0, z1, z2, z3, z4⟩ := hbox.free
  have hlt := hbox.lt
  have HB := Lib.hid hb1
  obtain ⟨r0, r1, r2, r3, r4⟩ := (hbox.set (.int .i64 0) (.int .i64 x) (.int .i64 y) (.string ⟨#[]⟩) (.slice none 0 0)).cells
  go_wp2_with fail
  exact bodyPost_ret (v := .tuple #[leafV 0 x y, .int .i64 z]) (by simp [results, Tryz.results69, go_sem, leafV, r0, r1, r2, r3, r4]) rfl ⟨rfl, HB.out.trans (set5_below w1 (w.heap.size + 2) w.heap.size _ _ _ _ _ (by omega))⟩

set_option maxHeartbeats 1000000 in
set_option maxRecDepth 100000 in
theorem step_1 (ka na da kb nb db : Int) (sa sb : ByteArray) (oa ob : Option Addr) (la ca lb cb : Nat) (x y z : Int) (hq : Prims.step 1 na da nb db = (x, y, z)) (h0 : -9223372036854775808 ≤ na) (h1 : na ≤ 9223372036854775807) (h2 : -9223372036854775808 ≤ da) (h3 : da ≤ 9223372036854775807) (h4 : -9223372036854775808 ≤ nb) (h5 : nb ≤ 9223372036854775807) (h6 : -9223372036854775808 ≤ db) (h7 : db ≤ 9223372036854775807) (w : World) :
    Calls Tryz.prog 69 #[.int .i64 1, .agg #[.int .i64 ka, .int .i64 na, .int .i64 da, .string sa, .slice oa la ca], .agg #[.int .i64 kb, .int .i64 nb, .int .i64 db, .string sb, .slice ob lb cb]] w fun e w' => e = .returned (.tuple #[leafV 0 x y, .int .i64 z]) ∧ Below w.heap.size w w' := by
  have HQ := Lib.hid (fun W => sub_to na da nb db x y z (by simpa [Prims.step] using hq) h0 h1 h2 h3 h4 h5 h6 h7 W)
  clear hq
  have HK := Lib.hid (fun X Y Z => (((Below.refl w.heap.size w).alloc (Nat.le_refl _) X).alloc (by simp) Y).alloc (by simp; omega) Z)
  have HX := Lib.hid (fun X Y => (show Box5 (((w.alloc X).alloc Y).alloc (.cells #[.int .i64 0, .int .i64 0, .int .i64 0, .string ⟨#[]⟩, .slice none 0 0] 26)) (w.heap.size + 2) 26 (.int .i64 0) (.int .i64 0) (.int .i64 0) (.string ⟨#[]⟩) (.slice none 0 0) by
    have := Box5.new ((w.alloc X).alloc Y) 26 (.int .i64 0) (.int .i64 0) (.int .i64 0) (.string ⟨#[]⟩) (.slice none 0 0)
    rwa [World.size_alloc, World.size_alloc] at this))
  go_enter Tryz.func69, Tryz.ntmps69
  go_wp2_with fail
  refine (HQ.out _).mono ?_
  rintro e1 w1 ⟨rfl, nk, hw1⟩
  have hb1 : Below w.heap.size w w1 := by rw [hw1]; exact Below.drewN (HK.out _ _ _) _
  have hbox : Box5 w1 (w.heap.size + 2) 26 (.int .i64 0) (.int .i64 0) (.int .i64 0) (.string ⟨#[]⟩) (.slice none 0 0) := by rw [hw1]; exact ((Below.selfN _ _).block _ (by simp)).trans (HX.out _ _)
  clear hw1
  obtain ⟨q0, q1, q2, q3, q4⟩ := hbox.cells
  obtain ⟨z0, z1, z2, z3, z4⟩ := hbox.free
  have hlt := hbox.lt
  have HB := Lib.hid hb1
  obtain ⟨r0, r1, r2, r3, r4⟩ := (hbox.set (.int .i64 0) (.int .i64 x) (.int .i64 y) (.string ⟨#[]⟩) (.slice none 0 0)).cells
  go_wp2_with fail
  exact bodyPost_ret (v := .tuple #[leafV 0 x y, .int .i64 z]) (by simp [results, Tryz.results69, go_sem, leafV, r0, r1, r2, r3, r4]) rfl ⟨rfl, HB.out.trans (set5_below w1 (w.heap.size + 2) w.heap.size _ _ _ _ _ (by omega))⟩

set_option maxHeartbeats 1000000 in
set_option maxRecDepth 100000 in
theorem step_2 (ka na da kb nb db : Int) (sa sb : ByteArray) (oa ob : Option Addr) (la ca lb cb : Nat) (x y z : Int) (hq : Prims.step 2 na da nb db = (x, y, z)) (h0 : -9223372036854775808 ≤ na) (h1 : na ≤ 9223372036854775807) (h2 : -9223372036854775808 ≤ da) (h3 : da ≤ 9223372036854775807) (h4 : -9223372036854775808 ≤ nb) (h5 : nb ≤ 9223372036854775807) (h6 : -9223372036854775808 ≤ db) (h7 : db ≤ 9223372036854775807) (w : World) :
    Calls Tryz.prog 69 #[.int .i64 2, .agg #[.int .i64 ka, .int .i64 na, .int .i64 da, .string sa, .slice oa la ca], .agg #[.int .i64 kb, .int .i64 nb, .int .i64 db, .string sb, .slice ob lb cb]] w fun e w' => e = .returned (.tuple #[leafV 0 x y, .int .i64 z]) ∧ Below w.heap.size w w' := by
  have HQ := Lib.hid (fun W => mul_to na da nb db x y z (by simpa [Prims.step] using hq) h0 h1 h2 h3 h4 h5 h6 h7 W)
  clear hq
  have HK := Lib.hid (fun X Y Z => (((Below.refl w.heap.size w).alloc (Nat.le_refl _) X).alloc (by simp) Y).alloc (by simp; omega) Z)
  have HX := Lib.hid (fun X Y => (show Box5 (((w.alloc X).alloc Y).alloc (.cells #[.int .i64 0, .int .i64 0, .int .i64 0, .string ⟨#[]⟩, .slice none 0 0] 26)) (w.heap.size + 2) 26 (.int .i64 0) (.int .i64 0) (.int .i64 0) (.string ⟨#[]⟩) (.slice none 0 0) by
    have := Box5.new ((w.alloc X).alloc Y) 26 (.int .i64 0) (.int .i64 0) (.int .i64 0) (.string ⟨#[]⟩) (.slice none 0 0)
    rwa [World.size_alloc, World.size_alloc] at this))
  go_enter Tryz.func69, Tryz.ntmps69
  go_wp2_with fail
  refine (HQ.out _).mono ?_
  rintro e1 w1 ⟨rfl, nk, hw1⟩
  have hb1 : Below w.heap.size w w1 := by rw [hw1]; exact Below.drewN (HK.out _ _ _) _
  have hbox : Box5 w1 (w.heap.size + 2) 26 (.int .i64 0) (.int .i64 0) (.int .i64 0) (.string ⟨#[]⟩) (.slice none 0 0) := by rw [hw1]; exact ((Below.selfN _ _).block _ (by simp)).trans (HX.out _ _)
  clear hw1
  obtain ⟨q0, q1, q2, q3, q4⟩ := hbox.cells
  obtain ⟨z0, z1, z2, z3, z4⟩ := hbox.free
  have hlt := hbox.lt
  have HB := Lib.hid hb1
  obtain ⟨r0, r1, r2, r3, r4⟩ := (hbox.set (.int .i64 0) (.int .i64 x) (.int .i64 y) (.string ⟨#[]⟩) (.slice none 0 0)).cells
  go_wp2_with fail
  exact bodyPost_ret (v := .tuple #[leafV 0 x y, .int .i64 z]) (by simp [results, Tryz.results69, go_sem, leafV, r0, r1, r2, r3, r4]) rfl ⟨rfl, HB.out.trans (set5_below w1 (w.heap.size + 2) w.heap.size _ _ _ _ _ (by omega))⟩

set_option maxHeartbeats 1000000 in
set_option maxRecDepth 100000 in
theorem step_3 (ka na da kb nb db : Int) (sa sb : ByteArray) (oa ob : Option Addr) (la ca lb cb : Nat) (x y z : Int) (hq : Prims.step 3 na da nb db = (x, y, z)) (h0 : -9223372036854775808 ≤ na) (h1 : na ≤ 9223372036854775807) (h2 : -9223372036854775808 ≤ da) (h3 : da ≤ 9223372036854775807) (h4 : -9223372036854775808 ≤ nb) (h5 : nb ≤ 9223372036854775807) (h6 : -9223372036854775808 ≤ db) (h7 : db ≤ 9223372036854775807) (w : World) :
    Calls Tryz.prog 69 #[.int .i64 3, .agg #[.int .i64 ka, .int .i64 na, .int .i64 da, .string sa, .slice oa la ca], .agg #[.int .i64 kb, .int .i64 nb, .int .i64 db, .string sb, .slice ob lb cb]] w fun e w' => e = .returned (.tuple #[leafV 0 x y, .int .i64 z]) ∧ Below w.heap.size w w' := by
  have HQ := Lib.hid (fun W => div_to na da nb db x y z (by simpa [Prims.step] using hq) h0 h1 h2 h3 h4 h5 h6 h7 W)
  clear hq
  have HK := Lib.hid (fun X Y Z => (((Below.refl w.heap.size w).alloc (Nat.le_refl _) X).alloc (by simp) Y).alloc (by simp; omega) Z)
  have HX := Lib.hid (fun X Y => (show Box5 (((w.alloc X).alloc Y).alloc (.cells #[.int .i64 0, .int .i64 0, .int .i64 0, .string ⟨#[]⟩, .slice none 0 0] 26)) (w.heap.size + 2) 26 (.int .i64 0) (.int .i64 0) (.int .i64 0) (.string ⟨#[]⟩) (.slice none 0 0) by
    have := Box5.new ((w.alloc X).alloc Y) 26 (.int .i64 0) (.int .i64 0) (.int .i64 0) (.string ⟨#[]⟩) (.slice none 0 0)
    rwa [World.size_alloc, World.size_alloc] at this))
  go_enter Tryz.func69, Tryz.ntmps69
  go_wp2_with fail
  refine (HQ.out _).mono ?_
  rintro e1 w1 ⟨rfl, nk, hw1⟩
  have hb1 : Below w.heap.size w w1 := by rw [hw1]; exact Below.drewN (HK.out _ _ _) _
  have hbox : Box5 w1 (w.heap.size + 2) 26 (.int .i64 0) (.int .i64 0) (.int .i64 0) (.string ⟨#[]⟩) (.slice none 0 0) := by rw [hw1]; exact ((Below.selfN _ _).block _ (by simp)).trans (HX.out _ _)
  clear hw1
  obtain ⟨q0, q1, q2, q3, q4⟩ := hbox.cells
  obtain ⟨z0, z1, z2, z3, z4⟩ := hbox.free
  have hlt := hbox.lt
  have HB := Lib.hid hb1
  obtain ⟨r0, r1, r2, r3, r4⟩ := (hbox.set (.int .i64 0) (.int .i64 x) (.int .i64 y) (.string ⟨#[]⟩) (.slice none 0 0)).cells
  go_wp2_with fail
  exact bodyPost_ret (v := .tuple #[leafV 0 x y, .int .i64 z]) (by simp [results, Tryz.results69, go_sem, leafV, r0, r1, r2, r3, r4]) rfl ⟨rfl, HB.out.trans (set5_below w1 (w.heap.size + 2) w.heap.size _ _ _ _ _ (by omega))⟩

/-- Fold's closure: is a datum not right? -/
theorem fold1_any (x : Dat) (v : Value) (B : Nat) (w : World) (hv : RepD w B x v) (hB : B ≤ w.heap.size) :
    Calls Tryz.prog 29 #[v] w fun e w' => e = .returned (.bool (!Dat.right x 0)) ∧ Below w.heap.size w w' := by
  obtain ⟨k, n, d, s, o, len, cap, rfl⟩ := agg_of hv
  obtain ⟨r, hr⟩ : ∃ r, Dat.right x 0 = r := ⟨_, rfl⟩
  rw [hr]
  have HC := Lib.hid (fun W (hb : Below w.heap.size w W) => dright_any x _ B W (hv.kept (hb.mono hB)) (Nat.le_trans hB hb.size))
  rw [hr] at HC
  clear hr hv
  have HK := Lib.hid (fun X => (Below.refl w.heap.size w).alloc (Nat.le_refl _) X)
  go_enter Tryz.func29, Tryz.ntmps29
  go_wp2_with fail
  refine (HC.out _ (HK.out _)).mono ?_
  rintro e1 w1 ⟨rfl, hb1⟩
  go_wp2_with fail
  go_ret
  exact ⟨rfl, one_below hb1⟩

/-- sums' closure: is a datum no number? -/
theorem sums1_any (k n d : Int) (s : ByteArray) (o : Option Addr) (len cap : Nat) (w : World) :
    Calls Tryz.prog 68 #[.agg #[.int .i64 k, .int .i64 n, .int .i64 d, .string s, .slice o len cap]] w fun e w' => e = .returned (.bool (k != 0)) ∧ Below w.heap.size w w' := by
  have HK := Lib.hid (fun X => (Below.refl w.heap.size w).alloc (Nat.le_refl _) X)
  go_enter Tryz.func68, Tryz.ntmps68
  go_wp2_with fail
  go_ret
  exact ⟨rfl, HK.out _⟩
end Go.Proofs.YtnpiekniignfcaaGreatDoor

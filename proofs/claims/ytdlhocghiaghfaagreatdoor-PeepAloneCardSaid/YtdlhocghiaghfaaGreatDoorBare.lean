/-
  The contracts of datum.bare, kind by kind.
-/
import Derived.Test.YtdlhocghiaghfaaGreatDoorNames
import Derived.Test.YtdlhocghiaghfaaGreatDoorBoxes
import Derived.RegionTactic
import Derived.ChangeAlike
import Derived.BigRegion
namespace Go.Proofs.YtdlhocghiaghfaaGreatDoor
open Go.RowKit

theorem name_to (s : ByteArray) (r : Bool) (hr : Dat.name s.data.toList = r) (hs : s.size ≤ 140737488351232) (w : World) :
    Calls Tryz.prog 100 #[.string s] w fun e w' => e = .returned (.bool r) ∧ Below w.heap.size w w' := by
  rw [← hr]; exact name_any s hs w
theorem strok_to (s : ByteArray) (r : Bool) (hr : s.data.toList.all Dat.strByte = r) (hs : s.size ≤ 140737488351232) (w : World) :
    Calls Tryz.prog 101 #[.string s] w fun e w' => e = .returned (.bool r) ∧ Below w.heap.size w w' := by
  rw [← hr]; exact strok_any s hs w

set_option maxHeartbeats 1000000 in
set_option maxRecDepth 100000 in
theorem bare_0 (n d : Int) (s : ByteArray) (o : Option Addr) (len cap : Nat) (hn0 : -9223372036854775808 ≤ n) (hn1 : n ≤ 9223372036854775807) (hd0 : -9223372036854775808 ≤ d) (hd1 : d ≤ 9223372036854775807) (w : World) :
    Calls Tryz.prog 63 #[.agg #[.int .i64 0, .int .i64 n, .int .i64 d, .string s, .slice o len cap]] w fun e w' => e = .returned (.tuple #[.agg #[.int .i64 0, .int .i64 n, .int .i64 d, .string ⟨#[]⟩, .slice none 0 0], .bool (Num.right n d)]) ∧ Below w.heap.size w w' := by
  obtain ⟨r, hr⟩ : ∃ r, Num.right n d = r := ⟨_, rfl⟩
  rw [hr]
  have HR := Lib.hid hr
  clear hr
  go_enter Tryz.func63, Tryz.ntmps63
  go_wp2
  refine wp_region_quiet_class (Two w #[.int .i64 0, .int .i64 n, .int .i64 d, .string s, .slice o len cap] 66 #[.int .i64 0, .int .i64 0, .int .i64 0, .string ByteArray.empty, .slice none 0 0]) 10 (by kernel_rfl) (by kernel_rfl) Two.drew ?_
  intro T _ W HW HW2
  have e0 : ∀ t, (W t).cell? ⟨w.heap.size, 0, none⟩ = some (.int .i64 0) := fun t => (HW t).cell 0 rfl
  have e1 : ∀ t, (W t).cell? ⟨w.heap.size, 1, none⟩ = some (.int .i64 n) := fun t => (HW t).cell 1 rfl
  have e2 : ∀ t, (W t).cell? ⟨w.heap.size, 2, none⟩ = some (.int .i64 d) := fun t => (HW t).cell 2 rfl
  have e3 : ∀ t, (W t).cell? ⟨w.heap.size, 3, none⟩ = some (.string s) := fun t => (HW t).cell 3 rfl
  have e4 : ∀ t, (W t).cell? ⟨w.heap.size, 4, none⟩ = some (.slice o len cap) := fun t => (HW t).cell 4 rfl
  have HWH := Lib.hid HW
  have HW2H := Lib.hid HW2
  clear HW HW2
  simp only [List.take_succ_cons, List.take_zero, List.drop_succ_cons, List.drop_zero]
  repeat (go_big_quiet_step (first | (go_at_call 99; refine (right_to n d r HR.out hn0 hn1 hd0 hd1 _).mono ?_; rintro e1 w1 ⟨rfl, k, rfl⟩; exact ⟨rfl, HW2H.out _ ((HWH.out _).next (Below.selfN _ _))⟩)))
  refine wpQuiet_nil ?_
  intro t
  obtain ⟨q0, q1, q2, q3, q4, z0, z1, z2, z3, z4⟩ := (HWH.out t).five
  go_wp2
  refine bodyPost_ret (v := .tuple #[.agg #[.int .i64 0, .int .i64 n, .int .i64 d, .string ⟨#[]⟩, .slice none 0 0], .bool r]) (by simp [results, Tryz.results63, go_sem, q0, q1, q2, q3, q4]) rfl ⟨rfl, ?_⟩
  exact (HWH.out t).stored _ _ _ _ _

set_option maxHeartbeats 1000000 in
set_option maxRecDepth 100000 in
theorem bare_1a (n d : Int) (s : ByteArray) (o : Option Addr) (len cap : Nat) (h0 : (n == 0) = true) (w : World) :
    Calls Tryz.prog 63 #[.agg #[.int .i64 1, .int .i64 n, .int .i64 d, .string s, .slice o len cap]] w fun e w' => e = .returned (.tuple #[.agg #[.int .i64 1, .int .i64 n, .int .i64 0, .string ⟨#[]⟩, .slice none 0 0], .bool (true)]) ∧ Below w.heap.size w w' := by
  go_enter Tryz.func63, Tryz.ntmps63
  go_wp2
  go_region
  all_goals
    go_wp2
    refine bodyPost_ret (v := .tuple #[.agg #[.int .i64 1, .int .i64 n, .int .i64 0, .string ⟨#[]⟩, .slice none 0 0], .bool true]) (by simp [results, Tryz.results63, go_sem]) rfl ⟨rfl, ?_⟩
    exact (((Below.refl w.heap.size w).alloc (Nat.le_refl _) _).alloc (by simp) _).drew

set_option maxHeartbeats 1000000 in
set_option maxRecDepth 100000 in
theorem bare_1b (n d : Int) (s : ByteArray) (o : Option Addr) (len cap : Nat) (h0 : (n == 0) = false) (h1 : (n == 1) = true) (w : World) :
    Calls Tryz.prog 63 #[.agg #[.int .i64 1, .int .i64 n, .int .i64 d, .string s, .slice o len cap]] w fun e w' => e = .returned (.tuple #[.agg #[.int .i64 1, .int .i64 n, .int .i64 0, .string ⟨#[]⟩, .slice none 0 0], .bool (true)]) ∧ Below w.heap.size w w' := by
  go_enter Tryz.func63, Tryz.ntmps63
  go_wp2
  go_region
  all_goals
    go_wp2
    refine bodyPost_ret (v := .tuple #[.agg #[.int .i64 1, .int .i64 n, .int .i64 0, .string ⟨#[]⟩, .slice none 0 0], .bool true]) (by simp [results, Tryz.results63, go_sem]) rfl ⟨rfl, ?_⟩
    exact (((Below.refl w.heap.size w).alloc (Nat.le_refl _) _).alloc (by simp) _).drew

set_option maxHeartbeats 1000000 in
set_option maxRecDepth 100000 in
theorem bare_1c (n d : Int) (s : ByteArray) (o : Option Addr) (len cap : Nat) (h0 : (n == 0) = false) (h1 : (n == 1) = false) (w : World) :
    Calls Tryz.prog 63 #[.agg #[.int .i64 1, .int .i64 n, .int .i64 d, .string s, .slice o len cap]] w fun e w' => e = .returned (.tuple #[.agg #[.int .i64 1, .int .i64 n, .int .i64 0, .string ⟨#[]⟩, .slice none 0 0], .bool (false)]) ∧ Below w.heap.size w w' := by
  go_enter Tryz.func63, Tryz.ntmps63
  go_wp2
  go_region
  all_goals
    go_wp2
    refine bodyPost_ret (v := .tuple #[.agg #[.int .i64 1, .int .i64 n, .int .i64 0, .string ⟨#[]⟩, .slice none 0 0], .bool false]) (by simp [results, Tryz.results63, go_sem]) rfl ⟨rfl, ?_⟩
    exact (((Below.refl w.heap.size w).alloc (Nat.le_refl _) _).alloc (by simp) _).drew

set_option maxHeartbeats 1000000 in
set_option maxRecDepth 100000 in
theorem bare_2 (n d : Int) (s : ByteArray) (o : Option Addr) (len cap : Nat) (hs : s.size ≤ 140737488351232) (w : World) :
    Calls Tryz.prog 63 #[.agg #[.int .i64 2, .int .i64 n, .int .i64 d, .string s, .slice o len cap]] w fun e w' => e = .returned (.tuple #[.agg #[.int .i64 2, .int .i64 0, .int .i64 0, .string s, .slice none 0 0], .bool (Dat.name s.data.toList)]) ∧ Below w.heap.size w w' := by
  obtain ⟨r, hr⟩ : ∃ r, Dat.name s.data.toList = r := ⟨_, rfl⟩
  rw [hr]
  have HR := Lib.hid hr
  clear hr
  go_enter Tryz.func63, Tryz.ntmps63
  go_wp2
  refine wp_region_quiet_class (Two w #[.int .i64 2, .int .i64 n, .int .i64 d, .string s, .slice o len cap] 66 #[.int .i64 0, .int .i64 0, .int .i64 0, .string ByteArray.empty, .slice none 0 0]) 8 (by kernel_rfl) (by kernel_rfl) Two.drew ?_
  intro T _ W HW HW2
  have e0 : ∀ t, (W t).cell? ⟨w.heap.size, 0, none⟩ = some (.int .i64 2) := fun t => (HW t).cell 0 rfl
  have e1 : ∀ t, (W t).cell? ⟨w.heap.size, 1, none⟩ = some (.int .i64 n) := fun t => (HW t).cell 1 rfl
  have e2 : ∀ t, (W t).cell? ⟨w.heap.size, 2, none⟩ = some (.int .i64 d) := fun t => (HW t).cell 2 rfl
  have e3 : ∀ t, (W t).cell? ⟨w.heap.size, 3, none⟩ = some (.string s) := fun t => (HW t).cell 3 rfl
  have e4 : ∀ t, (W t).cell? ⟨w.heap.size, 4, none⟩ = some (.slice o len cap) := fun t => (HW t).cell 4 rfl
  have HWH := Lib.hid HW
  have HW2H := Lib.hid HW2
  clear HW HW2
  simp only [List.take_succ_cons, List.take_zero, List.drop_succ_cons, List.drop_zero]
  repeat (go_big_quiet_step (first | (go_at_call 100; refine (name_to s r HR.out hs _).mono ?_; rintro e1 w1 ⟨rfl, hb⟩; exact ⟨rfl, HW2H.out _ ((HWH.out _).next hb)⟩)))
  refine wpQuiet_nil ?_
  intro t
  obtain ⟨q0, q1, q2, q3, q4, z0, z1, z2, z3, z4⟩ := (HWH.out t).five
  go_wp2
  refine bodyPost_ret (v := .tuple #[.agg #[.int .i64 2, .int .i64 0, .int .i64 0, .string s, .slice none 0 0], .bool r]) (by simp [results, Tryz.results63, go_sem, q0, q1, q2, q3, q4]) rfl ⟨rfl, ?_⟩
  exact (HWH.out t).stored _ _ _ _ _

set_option maxHeartbeats 1000000 in
set_option maxRecDepth 100000 in
theorem bare_3 (n d : Int) (s : ByteArray) (o : Option Addr) (len cap : Nat) (hs : s.size ≤ 140737488351232) (w : World) :
    Calls Tryz.prog 63 #[.agg #[.int .i64 3, .int .i64 n, .int .i64 d, .string s, .slice o len cap]] w fun e w' => e = .returned (.tuple #[.agg #[.int .i64 3, .int .i64 0, .int .i64 0, .string s, .slice none 0 0], .bool (s.data.toList.all Dat.strByte)]) ∧ Below w.heap.size w w' := by
  obtain ⟨r, hr⟩ : ∃ r, s.data.toList.all Dat.strByte = r := ⟨_, rfl⟩
  rw [hr]
  have HR := Lib.hid hr
  clear hr
  go_enter Tryz.func63, Tryz.ntmps63
  go_wp2
  refine wp_region_quiet_class (Two w #[.int .i64 3, .int .i64 n, .int .i64 d, .string s, .slice o len cap] 66 #[.int .i64 0, .int .i64 0, .int .i64 0, .string ByteArray.empty, .slice none 0 0]) 8 (by kernel_rfl) (by kernel_rfl) Two.drew ?_
  intro T _ W HW HW2
  have e0 : ∀ t, (W t).cell? ⟨w.heap.size, 0, none⟩ = some (.int .i64 3) := fun t => (HW t).cell 0 rfl
  have e1 : ∀ t, (W t).cell? ⟨w.heap.size, 1, none⟩ = some (.int .i64 n) := fun t => (HW t).cell 1 rfl
  have e2 : ∀ t, (W t).cell? ⟨w.heap.size, 2, none⟩ = some (.int .i64 d) := fun t => (HW t).cell 2 rfl
  have e3 : ∀ t, (W t).cell? ⟨w.heap.size, 3, none⟩ = some (.string s) := fun t => (HW t).cell 3 rfl
  have e4 : ∀ t, (W t).cell? ⟨w.heap.size, 4, none⟩ = some (.slice o len cap) := fun t => (HW t).cell 4 rfl
  have HWH := Lib.hid HW
  have HW2H := Lib.hid HW2
  clear HW HW2
  simp only [List.take_succ_cons, List.take_zero, List.drop_succ_cons, List.drop_zero]
  repeat (go_big_quiet_step (first | (go_at_call 101; refine (strok_to s r HR.out hs _).mono ?_; rintro e1 w1 ⟨rfl, hb⟩; exact ⟨rfl, HW2H.out _ ((HWH.out _).next hb)⟩)))
  refine wpQuiet_nil ?_
  intro t
  obtain ⟨q0, q1, q2, q3, q4, z0, z1, z2, z3, z4⟩ := (HWH.out t).five
  go_wp2
  refine bodyPost_ret (v := .tuple #[.agg #[.int .i64 3, .int .i64 0, .int .i64 0, .string s, .slice none 0 0], .bool r]) (by simp [results, Tryz.results63, go_sem, q0, q1, q2, q3, q4]) rfl ⟨rfl, ?_⟩
  exact (HWH.out t).stored _ _ _ _ _

set_option maxHeartbeats 1000000 in
set_option maxRecDepth 100000 in
theorem bare_4 (n d : Int) (s : ByteArray) (o : Option Addr) (len cap : Nat)  (w : World) :
    Calls Tryz.prog 63 #[.agg #[.int .i64 4, .int .i64 n, .int .i64 d, .string s, .slice o len cap]] w fun e w' => e = .returned (.tuple #[.agg #[.int .i64 4, .int .i64 0, .int .i64 0, .string ⟨#[]⟩, .slice none 0 0], .bool (true)]) ∧ Below w.heap.size w w' := by
  go_enter Tryz.func63, Tryz.ntmps63
  go_wp2
  refine bodyPost_ret (v := .tuple #[.agg #[.int .i64 4, .int .i64 0, .int .i64 0, .string ⟨#[]⟩, .slice none 0 0], .bool true]) (by simp [results, Tryz.results63, go_sem]) rfl ⟨rfl, ?_⟩
  exact ((Below.refl w.heap.size w).alloc (Nat.le_refl _) _).alloc (by simp) _

set_option maxHeartbeats 1000000 in
set_option maxRecDepth 100000 in
theorem bare_5 (n d : Int) (s : ByteArray) (o : Option Addr) (len cap : Nat)  (w : World) :
    Calls Tryz.prog 63 #[.agg #[.int .i64 5, .int .i64 n, .int .i64 d, .string s, .slice o len cap]] w fun e w' => e = .returned (.tuple #[.agg #[.int .i64 5, .int .i64 0, .int .i64 0, .string ⟨#[]⟩, .slice none 0 0], .bool (true)]) ∧ Below w.heap.size w w' := by
  go_enter Tryz.func63, Tryz.ntmps63
  go_wp2
  refine bodyPost_ret (v := .tuple #[.agg #[.int .i64 5, .int .i64 0, .int .i64 0, .string ⟨#[]⟩, .slice none 0 0], .bool true]) (by simp [results, Tryz.results63, go_sem]) rfl ⟨rfl, ?_⟩
  exact ((Below.refl w.heap.size w).alloc (Nat.le_refl _) _).alloc (by simp) _

set_option maxHeartbeats 1000000 in
set_option maxRecDepth 100000 in
theorem bare_6a (n d : Int) (s : ByteArray) (o : Option Addr) (cap : Nat)  (w : World) :
    Calls Tryz.prog 63 #[.agg #[.int .i64 6, .int .i64 n, .int .i64 d, .string s, .slice o 2 cap]] w fun e w' => e = .returned (.tuple #[.agg #[.int .i64 6, .int .i64 0, .int .i64 0, .string ⟨#[]⟩, .slice o 2 cap], .bool (true)]) ∧ Below w.heap.size w w' := by
  go_enter Tryz.func63, Tryz.ntmps63
  go_wp2
  go_region
  all_goals
    go_wp2
    refine bodyPost_ret (v := .tuple #[.agg #[.int .i64 6, .int .i64 0, .int .i64 0, .string ⟨#[]⟩, .slice o 2 cap], .bool true]) (by simp [results, Tryz.results63, go_sem]) rfl ⟨rfl, ?_⟩
    exact (((Below.refl w.heap.size w).alloc (Nat.le_refl _) _).alloc (by simp) _).drew

set_option maxHeartbeats 1000000 in
set_option maxRecDepth 100000 in
theorem bare_6b (n d : Int) (s : ByteArray) (o : Option Addr) (len cap : Nat) (hl : ((len : Int) == 2) = false) (w : World) :
    Calls Tryz.prog 63 #[.agg #[.int .i64 6, .int .i64 n, .int .i64 d, .string s, .slice o len cap]] w fun e w' => e = .returned (.tuple #[.agg #[.int .i64 6, .int .i64 0, .int .i64 0, .string ⟨#[]⟩, .slice o len cap], .bool (false)]) ∧ Below w.heap.size w w' := by
  go_enter Tryz.func63, Tryz.ntmps63
  go_wp2
  go_region
  all_goals
    go_wp2
    refine bodyPost_ret (v := .tuple #[.agg #[.int .i64 6, .int .i64 0, .int .i64 0, .string ⟨#[]⟩, .slice o len cap], .bool false]) (by simp [results, Tryz.results63, go_sem]) rfl ⟨rfl, ?_⟩
    exact (((Below.refl w.heap.size w).alloc (Nat.le_refl _) _).alloc (by simp) _).drew

set_option maxHeartbeats 1000000 in
set_option maxRecDepth 100000 in
theorem bare_7 (n d : Int) (s : ByteArray) (o : Option Addr) (len cap : Nat)  (w : World) :
    Calls Tryz.prog 63 #[.agg #[.int .i64 7, .int .i64 n, .int .i64 d, .string s, .slice o len cap]] w fun e w' => e = .returned (.tuple #[.agg #[.int .i64 7, .int .i64 0, .int .i64 0, .string ⟨#[]⟩, .slice o len cap], .bool (true)]) ∧ Below w.heap.size w w' := by
  go_enter Tryz.func63, Tryz.ntmps63
  go_wp2
  refine bodyPost_ret (v := .tuple #[.agg #[.int .i64 7, .int .i64 0, .int .i64 0, .string ⟨#[]⟩, .slice o len cap], .bool true]) (by simp [results, Tryz.results63, go_sem]) rfl ⟨rfl, ?_⟩
  exact ((Below.refl w.heap.size w).alloc (Nat.le_refl _) _).alloc (by simp) _

set_option maxHeartbeats 1000000 in
set_option maxRecDepth 100000 in
theorem bare_8 (k : Int) (n d : Int) (s : ByteArray) (o : Option Addr) (len cap : Nat) (h : k < 0 ∨ 7 < k) (w : World) :
    Calls Tryz.prog 63 #[.agg #[.int .i64 k, .int .i64 n, .int .i64 d, .string s, .slice o len cap]] w fun e w' => e = .returned (.tuple #[.agg #[.int .i64 0, .int .i64 0, .int .i64 0, .string ⟨#[]⟩, .slice none 0 0], .bool (false)]) ∧ Below w.heap.size w w' := by
  have c0 : (k == 0) = false := by simp; omega
  have c1 : (k == 1) = false := by simp; omega
  have c2 : (k == 2) = false := by simp; omega
  have c3 : (k == 3) = false := by simp; omega
  have c4 : (k == 4) = false := by simp; omega
  have c5 : (k == 5) = false := by simp; omega
  have c6 : (k == 6) = false := by simp; omega
  have c7 : (k == 7) = false := by simp; omega
  clear h
  go_enter Tryz.func63, Tryz.ntmps63
  go_wp2
  refine bodyPost_ret (v := .tuple #[.agg #[.int .i64 0, .int .i64 0, .int .i64 0, .string ⟨#[]⟩, .slice none 0 0], .bool false]) (by simp [results, Tryz.results63, go_sem]) rfl ⟨rfl, ?_⟩
  exact ((Below.refl w.heap.size w).alloc (Nat.le_refl _) _).alloc (by simp) _

end Go.Proofs.YtdlhocghiaghfaaGreatDoor

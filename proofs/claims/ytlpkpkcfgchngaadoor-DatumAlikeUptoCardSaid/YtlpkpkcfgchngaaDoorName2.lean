/-
  The contract of datum.Name.
-/
import Derived.Test.YtlpkpkcfgchngaaDoorName
namespace Go.Proofs.YtlpkpkcfgchngaaDoor
open Go.RowKit

theorem trim_marks (s : ByteArray) (T : List UInt8) (hs : s.size ≤ 9223372036854775807) (hT : Lib.trimS s.data.toList Dat.marks = T) (w : World) :
    Calls Tryd.prog 36 #[.string s, .string ⟨#[97, 98, 99, 100, 101, 102, 103, 104, 105, 106, 107, 108, 109, 110, 111, 112, 113, 114, 115, 116, 117, 118, 119, 120, 121, 122, 48, 49, 50, 51, 52, 53, 54, 55, 56, 57, 45, 43, 42, 47, 60, 62, 61, 33, 63, 95, 37]⟩] w fun e w' => e = .returned (.string ⟨T.toArray⟩) ∧ Below w.heap.size w w' := by
  have := trim_any s ⟨#[97, 98, 99, 100, 101, 102, 103, 104, 105, 106, 107, 108, 109, 110, 111, 112, 113, 114, 115, 116, 117, 118, 119, 120, 121, 122, 48, 49, 50, 51, 52, 53, 54, 55, 56, 57, 45, 43, 42, 47, 60, 62, 61, 33, 63, 95, 37]⟩ hs (by decide) (by decide +kernel) w
  rw [show (⟨#[97, 98, 99, 100, 101, 102, 103, 104, 105, 106, 107, 108, 109, 110, 111, 112, 113, 114, 115, 116, 117, 118, 119, 120, 121, 122, 48, 49, 50, 51, 52, 53, 54, 55, 56, 57, 45, 43, 42, 47, 60, 62, 61, 33, 63, 95, 37]⟩ : ByteArray).data.toList = Dat.marks from rfl, hT] at this
  exact this

theorem plain_to (s : ByteArray) (r : Bool) (hr : s.data.toList.all Dat.nameByte = r) (hs : s.size ≤ 140737488351232) (w : World) :
    Calls Tryd.prog 37 #[.string s] w fun e w' => e = .returned (.bool r) ∧ Below w.heap.size w w' := by
  rw [← hr]; exact plain_any s hs w

theorem parse_to (s : ByteArray) (x y : Int) (z : Bool) (hp : Num.parse s.data.toList = (x, y, z)) (hs : s.size ≤ 9223372036854775806) (w : World) :
    Calls Tryd.prog 38 #[.string s] w fun e w' => e = .returned (.tuple #[.int .i64 x, .int .i64 y, .bool z]) ∧ Below w.heap.size w w' := by
  have := parse_any s hs w
  rw [hp] at this; exact this

set_option maxHeartbeats 1000000 in
set_option maxRecDepth 100000 in
theorem name_any (s : ByteArray) (hs : s.size ≤ 140737488351232) (w : World) :
    Calls Tryd.prog 27 #[.string s] w fun e w' => e = .returned (.bool (Dat.name s.data.toList)) ∧ Below w.heap.size w w' := by
  have hl : s.data.toList.length = s.size := rfl
  obtain ⟨r, hr⟩ : ∃ r, Dat.name s.data.toList = r := ⟨_, rfl⟩
  rw [hr]
  unfold Dat.name at hr
  rw [hl] at hr
  by_cases h0 : s.size = 0
  · have HR := Lib.hid (show r = false by rw [← hr, h0]; rfl)
    clear hr
    go_enter Tryd.func27, Tryd.ntmps27
    go_wp2
    go_ret
    exact ⟨ret_bool HR.out.symm, Below.self _⟩
  have hne : ¬ s = ByteArray.empty := by rintro rfl; simp at h0
  have hz : ((s.size : Int) == 0) = false := by simpa using hne
  by_cases h40 : 40 < s.size
  · have HR := Lib.hid (show r = false by rw [← hr, decide_eq_false (by omega : ¬ s.size ≤ 40)]; simp)
    clear hr
    go_enter Tryd.func27, Tryd.ntmps27
    go_wp2
    go_ret
    exact ⟨ret_bool HR.out.symm, Below.self _⟩
  rw [decide_eq_true (by omega : 1 ≤ s.size), decide_eq_true (by omega : s.size ≤ 40)] at hr
  simp only [Bool.true_and] at hr
  obtain ⟨T, hT⟩ : ∃ T, Lib.trimS s.data.toList Dat.marks = T := ⟨_, rfl⟩
  have hall : s.data.toList.all Dat.nameByte = T.isEmpty := by
    rw [Bool.eq_iff_iff, List.all_eq_true, List.isEmpty_iff, ← hT, Num.trimS_nil]
    exact Iff.rfl
  cases he : T.isEmpty with
  | false =>
    have HR := Lib.hid (show r = false by rw [← hr, hall, he]; rfl)
    have HT := Lib.hid hT
    clear hr hall hT
    go_enter Tryd.func27, Tryd.ntmps27
    go_wp2_with (first | (go_at_call 36; refine (trim_marks s T (by omega) HT.out _).mono ?_; rintro e' w1 ⟨rfl, hb⟩))
    go_ret
    exact ⟨ret_bool HR.out.symm, hb⟩
  | true =>
    rw [List.isEmpty_iff] at he
    subst he
    obtain ⟨x, y, z, hp⟩ : ∃ x y z, Num.parse s.data.toList = (x, y, z) := ⟨_, _, _, rfl⟩
    have HR := Lib.hid (show r = !z by rw [← hr, hall, hp]; rfl)
    have HT := Lib.hid hT
    have HA := Lib.hid (show s.data.toList.all Dat.nameByte = true by rw [hall]; rfl)
    have HP := Lib.hid hp
    clear hr hall hT hp
    go_enter Tryd.func27, Tryd.ntmps27
    go_wp2_with (first | (go_at_call 36; refine (trim_marks s [] (by omega) HT.out _).mono ?_; rintro e' w1 ⟨rfl, hb⟩) | (go_at_call 37; refine (plain_to s true HA.out hs _).mono ?_; rintro e' w2 ⟨rfl, hb2⟩) | (go_at_call 38; refine (parse_to s x y z HP.out (by omega) _).mono ?_; rintro e' w3 ⟨rfl, hb3⟩))
    go_ret
    exact ⟨ret_bool HR.out.symm, Below.next (Below.next hb hb2) hb3⟩
end Go.Proofs.YtlpkpkcfgchngaaDoor

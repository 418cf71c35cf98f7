/-
  The contracts of datum.string_, plain, Name.
-/
import Derived.Test.YtdlhocghiaghfaaGreatDoorFewAll
import Derived.Test.YtdlhocghiaghfaaGreatDoorParses
import Derived.Lib.ConvBytes
import Derived.Lib.IndexAny
namespace Go.Proofs.YtdlhocghiaghfaaGreatDoor
open Go.RowKit

/-- []byte(s): new memory that holds the bytes. -/
theorem bytes_of (w : World) (s : ByteArray) : ∃ C W1, (convert 9 171 (.string s)).run Tryz.prog w = .ok (.slice (some ⟨w.heap.size, 0, none⟩) s.size C) W1 ∧ Below w.heap.size w W1 ∧ (∀ j, j < s.size → W1.cell? ⟨w.heap.size, j, none⟩ = some (.int .u8 (s.data.toList.getD j 0).toNat)) := by
  refine ⟨_, _, Lib.run_convert_string_bytes (P := Tryz.prog) w 9 171 5 s Tryz.underlying9 Tryz.underlying171 Tryz.underlying5, ?_, ?_⟩
  · exact ⟨rfl, rfl, rfl, by rw [Lib.bytesWorld_size]; omega, fun k hk => Lib.bytesWorld_at_old _ _ _ _ hk⟩
  · intro j hj; exact Lib.bytesWorld_cell _ _ _ _ hj

theorem all_take_succ {p : UInt8 → Bool} {l : List UInt8} {j : Nat} (hj : j < l.length) (h : (l.take j).all p = true) (hp : p (l.getD j 0) = true) : (l.take (j + 1)).all p = true := by
  have e : l.take (j + 1) = l.take j ++ [l.getD j 0] := by
    rw [List.take_add_one, List.getElem?_eq_getElem hj, List.getD_eq_getElem?_getD, List.getElem?_eq_getElem hj]; rfl
  rw [e, List.all_append, h, List.all_cons, hp]; rfl

theorem all_false {p : UInt8 → Bool} {l : List UInt8} {j : Nat} (hj : j < l.length) (hp : p (l.getD j 0) = false) : l.all p = false := by
  have hm : l.getD j 0 ∈ l := by
    rw [List.getD_eq_getElem?_getD, List.getElem?_eq_getElem hj]; exact List.getElem_mem _
  cases h : l.all p with
  | false => rfl
  | true => rw [List.all_eq_true.1 h _ hm] at hp; cases hp

set_option maxHeartbeats 1000000 in
set_option maxRecDepth 100000 in
theorem strok_any (s : ByteArray) (hs : s.size ≤ 140737488351232) (w : World) :
    Calls Tryz.prog 101 #[.string s] w fun e w' => e = .returned (.bool (s.data.toList.all Dat.strByte)) ∧ Below w.heap.size w w' := by
  have hl : s.data.toList.length = s.size := rfl
  obtain ⟨r, hr⟩ : ∃ r, s.data.toList.all Dat.strByte = r := ⟨_, rfl⟩
  rw [hr]
  have HR := Lib.hid hr
  clear hr
  obtain ⟨C, W1, hcv, hb, hcell⟩ := bytes_of w s
  have HC := Lib.hid hcell
  have HB := Lib.hid hb
  clear hcell hb
  go_enter Tryz.func101, Tryz.ntmps101
  go_wp2
  clear hcv
  go_loop [8] (fun i => ∃ j : Nat, i = .int .i64 j ∧ j ≤ s.size ∧ (s.data.toList.take j).all Dat.strByte = true) (fun i => s.size - (intOf i).toNat)
  case atStart => exact ⟨0, rfl, by omega, rfl⟩
  case round =>
    obtain ⟨j, rfl, hj, hall⟩ := hrel
    have HA := Lib.hid hall
    clear hall
    by_cases hjs : j < s.size
    · have hc := HC.out j hjs
      obtain ⟨b, hbb⟩ : ∃ b, s.data.toList.getD j 0 = b := ⟨_, rfl⟩
      rw [hbb] at hc
      have HBB := Lib.hid hbb
      clear hbb
      have h256 : b.toNat < 256 := b.toNat_lt
      cases hok : Dat.strByte b with
      | true =>
        have hk := hok
        simp only [Dat.strByte, Bool.and_eq_true, decide_eq_true_eq] at hk
        obtain ⟨k1, k2, k3, k4⟩ := hk
        have m1 : ((b.toNat : Int) == 34) = false := by simp; omega
        have m2 : ((b.toNat : Int) == 92) = false := by simp; omega
        have HN := Lib.hid (all_take_succ (by rw [hl]; exact hjs) HA.out (by rw [HBB.out]; exact hok))
        clear hok k3 k4
        go_wp2
        go_round
        case rel => exact ⟨j + 1, by go_num, by omega, HN.out⟩
        case measure => simp [intOf]; omega
      | false =>
        have HF := Lib.hid (all_false (p := Dat.strByte) (by rw [hl]; exact hjs) (by rw [HBB.out]; exact hok))
        have hk : b.toNat < 32 ∨ 126 < b.toNat ∨ b.toNat = 34 ∨ b.toNat = 92 := by
          apply Decidable.byContradiction
          intro h
          have : Dat.strByte b = true := by
            simp only [Dat.strByte, Bool.and_eq_true, decide_eq_true_eq]; omega
          rw [this] at hok; cases hok
        clear hok
        by_cases p1 : b.toNat < 32
        · clear hk
          go_wp2
          go_ret
          exact ⟨ret_bool (by rw [← HR.out, HF.out]), HB.out⟩
        by_cases p2 : 126 < b.toNat
        · clear hk
          go_wp2
          go_ret
          exact ⟨ret_bool (by rw [← HR.out, HF.out]), HB.out⟩
        by_cases p3 : b.toNat = 34
        · have m1 : ((b.toNat : Int) == 34) = true := by simp; omega
          have P3 := Lib.hid p3
          clear hk p3
          go_wp2
          go_ret
          exact ⟨ret_bool (by rw [← HR.out, HF.out]), HB.out⟩
        · have m1 : ((b.toNat : Int) == 34) = false := by simp; omega
          have m2 : ((b.toNat : Int) == 92) = true := by simp; omega
          clear hk p3
          go_wp2
          go_ret
          exact ⟨ret_bool (by rw [← HR.out, HF.out]), HB.out⟩
    · have HF := Lib.hid (show s.data.toList.all Dat.strByte = true by rw [← HA.out, List.take_of_length_le (by rw [hl]; omega)])
      go_wp2
      go_ret
      exact ⟨ret_bool (by rw [← HR.out, HF.out]), HB.out⟩

theorem mark_iff (b : UInt8) : (Lib.indexByte Dat.marks b < 0 ↔ Dat.nameByte b = false) := by
  unfold Dat.nameByte
  rw [Lib.contains_iff_indexByte]
  simp

theorem mark_any (b : UInt8) (w : World) : Calls Tryz.prog 158 #[.string ⟨#[97, 98, 99, 100, 101, 102, 103, 104, 105, 106, 107, 108, 109, 110, 111, 112, 113, 114, 115, 116, 117, 118, 119, 120, 121, 122, 48, 49, 50, 51, 52, 53, 54, 55, 56, 57, 45, 43, 42, 47, 60, 62, 61, 33, 63, 95, 37]⟩, .int .u8 b.toNat] w fun e w' => e = .returned (.int .i64 (Lib.indexByte Dat.marks b)) ∧ w' = w := by
  have := Tryz.strings_IndexByte ⟨#[97, 98, 99, 100, 101, 102, 103, 104, 105, 106, 107, 108, 109, 110, 111, 112, 113, 114, 115, 116, 117, 118, 119, 120, 121, 122, 48, 49, 50, 51, 52, 53, 54, 55, 56, 57, 45, 43, 42, 47, 60, 62, 61, 33, 63, 95, 37]⟩ b.toNat w
  refine this.mono ?_
  rintro e w' ⟨rfl, rfl⟩
  refine ⟨?_, rfl⟩
  simp
  rfl

set_option maxHeartbeats 1000000 in
set_option maxRecDepth 100000 in
theorem plain_any (s : ByteArray) (hs : s.size ≤ 140737488351232) (w : World) :
    Calls Tryz.prog 137 #[.string s] w fun e w' => e = .returned (.bool (s.data.toList.all Dat.nameByte)) ∧ Below w.heap.size w w' := by
  have hl : s.data.toList.length = s.size := rfl
  obtain ⟨r, hr⟩ : ∃ r, s.data.toList.all Dat.nameByte = r := ⟨_, rfl⟩
  rw [hr]
  have HR := Lib.hid hr
  clear hr
  obtain ⟨C, W1, hcv, hb, hcell⟩ := bytes_of w s
  have HC := Lib.hid hcell
  have HB := Lib.hid hb
  clear hcell hb
  go_enter Tryz.func137, Tryz.ntmps137
  go_wp2
  clear hcv
  go_loop [8] (fun i => ∃ j : Nat, i = .int .i64 j ∧ j ≤ s.size ∧ (s.data.toList.take j).all Dat.nameByte = true) (fun i => s.size - (intOf i).toNat)
  case atStart => exact ⟨0, rfl, by omega, rfl⟩
  case round =>
    obtain ⟨j, rfl, hj, hall⟩ := hrel
    have HA := Lib.hid hall
    clear hall
    by_cases hjs : j < s.size
    · have hc := HC.out j hjs
      obtain ⟨b, hbb⟩ : ∃ b, s.data.toList.getD j 0 = b := ⟨_, rfl⟩
      rw [hbb] at hc
      have HBB := Lib.hid hbb
      clear hbb
      have hM := mark_any b
      have hi := mark_iff b
      generalize Lib.indexByte Dat.marks b = q at hM hi
      have HM := Lib.hid hM
      clear hM
      cases hok : Dat.nameByte b with
      | true =>
        rw [hok] at hi
        have hq : ¬ q < 0 := by intro h; exact absurd (hi.1 h) (by simp)
        have HN := Lib.hid (all_take_succ (by rw [hl]; exact hjs) HA.out (by rw [HBB.out]; exact hok))
        clear hok hi
        go_wp2_with (first | (go_at_call 158; refine (HM.out _).mono ?_; rintro e' w1 ⟨rfl, rfl⟩))
        go_round
        case rel => exact ⟨j + 1, by go_num, by omega, HN.out⟩
        case measure => simp [intOf]; omega
      | false =>
        rw [hok] at hi
        have hq : q < 0 := hi.2 rfl
        have HF := Lib.hid (all_false (p := Dat.nameByte) (by rw [hl]; exact hjs) (by rw [HBB.out]; exact hok))
        clear hok hi
        go_wp2_with (first | (go_at_call 158; refine (HM.out _).mono ?_; rintro e' w1 ⟨rfl, rfl⟩))
        go_ret
        exact ⟨ret_bool (by rw [← HR.out, HF.out]), HB.out⟩
    · have HF := Lib.hid (show s.data.toList.all Dat.nameByte = true by rw [← HA.out, List.take_of_length_le (by rw [hl]; omega)])
      go_wp2
      go_ret
      exact ⟨ret_bool (by rw [← HR.out, HF.out]), HB.out⟩
end Go.Proofs.YtdlhocghiaghfaaGreatDoor

namespace Go.Proofs.YtdlhocghiaghfaaGreatDoor
open Go.RowKit

theorem trim_marks (s : ByteArray) (T : List UInt8) (hs : s.size ≤ 9223372036854775807) (hT : Lib.trimS s.data.toList Dat.marks = T) (w : World) :
    Calls Tryz.prog 136 #[.string s, .string ⟨#[97, 98, 99, 100, 101, 102, 103, 104, 105, 106, 107, 108, 109, 110, 111, 112, 113, 114, 115, 116, 117, 118, 119, 120, 121, 122, 48, 49, 50, 51, 52, 53, 54, 55, 56, 57, 45, 43, 42, 47, 60, 62, 61, 33, 63, 95, 37]⟩] w fun e w' => e = .returned (.string ⟨T.toArray⟩) ∧ Below w.heap.size w w' := by
  have := trim_any s ⟨#[97, 98, 99, 100, 101, 102, 103, 104, 105, 106, 107, 108, 109, 110, 111, 112, 113, 114, 115, 116, 117, 118, 119, 120, 121, 122, 48, 49, 50, 51, 52, 53, 54, 55, 56, 57, 45, 43, 42, 47, 60, 62, 61, 33, 63, 95, 37]⟩ hs (by decide) (by decide +kernel) w
  rw [show (⟨#[97, 98, 99, 100, 101, 102, 103, 104, 105, 106, 107, 108, 109, 110, 111, 112, 113, 114, 115, 116, 117, 118, 119, 120, 121, 122, 48, 49, 50, 51, 52, 53, 54, 55, 56, 57, 45, 43, 42, 47, 60, 62, 61, 33, 63, 95, 37]⟩ : ByteArray).data.toList = Dat.marks from rfl, hT] at this
  exact this

theorem plain_to (s : ByteArray) (r : Bool) (hr : s.data.toList.all Dat.nameByte = r) (hs : s.size ≤ 140737488351232) (w : World) :
    Calls Tryz.prog 137 #[.string s] w fun e w' => e = .returned (.bool r) ∧ Below w.heap.size w w' := by
  rw [← hr]; exact plain_any s hs w

theorem parse_to (s : ByteArray) (x y : Int) (z : Bool) (hp : Num.parse s.data.toList = (x, y, z)) (hs : s.size ≤ 9223372036854775806) (w : World) :
    Calls Tryz.prog 138 #[.string s] w fun e w' => e = .returned (.tuple #[.int .i64 x, .int .i64 y, .bool z]) ∧ Below w.heap.size w w' := by
  have := parse_any s hs w
  rw [hp] at this; exact this

set_option maxHeartbeats 1000000 in
set_option maxRecDepth 100000 in
theorem name_any (s : ByteArray) (hs : s.size ≤ 140737488351232) (w : World) :
    Calls Tryz.prog 100 #[.string s] w fun e w' => e = .returned (.bool (Dat.name s.data.toList)) ∧ Below w.heap.size w w' := by
  have hl : s.data.toList.length = s.size := rfl
  obtain ⟨r, hr⟩ : ∃ r, Dat.name s.data.toList = r := ⟨_, rfl⟩
  rw [hr]
  unfold Dat.name at hr
  rw [hl] at hr
  by_cases h0 : s.size = 0
  · have HR := Lib.hid (show r = false by rw [← hr, h0]; rfl)
    clear hr
    go_enter Tryz.func100, Tryz.ntmps100
    go_wp2
    go_ret
    exact ⟨ret_bool HR.out.symm, Below.self _⟩
  have hne : ¬ s = ByteArray.empty := by rintro rfl; simp at h0
  have hz : ((s.size : Int) == 0) = false := by simpa using hne
  by_cases h40 : 40 < s.size
  · have HR := Lib.hid (show r = false by rw [← hr, decide_eq_false (by omega : ¬ s.size ≤ 40)]; simp)
    clear hr
    go_enter Tryz.func100, Tryz.ntmps100
    go_wp2
    go_ret
    exact ⟨ret_bool HR.out.symm, Below.self _⟩
  rw [decide_eq_true (by omega : 1 ≤ s.size), decide_eq_true (by omega : s.size ≤ 40)] at hr
  simp only [Bool.true_and] at hr
  obtain ⟨T, hT⟩ : ∃ T, Lib.trimS s.data.toList Dat.marks = T := ⟨_, rfl⟩
  have hall : s.data.toList.all Dat.nameByte = T.isEmpty := by
    rw [Bool.eq_iff_iff, List.all_eq_true, List.isEmpty_iff, ← hT, Num.trimS_nil]
    exact Iff.rfl
  cases he : T.isEmpty with
  | false =>
    have HR := Lib.hid (show r = false by rw [← hr, hall, he]; rfl)
    have HT := Lib.hid hT
    clear hr hall hT
    go_enter Tryz.func100, Tryz.ntmps100
    go_wp2_with (first | (go_at_call 136; refine (trim_marks s T (by omega) HT.out _).mono ?_; rintro e' w1 ⟨rfl, hb⟩))
    go_ret
    exact ⟨ret_bool HR.out.symm, hb⟩
  | true =>
    rw [List.isEmpty_iff] at he
    subst he
    obtain ⟨x, y, z, hp⟩ : ∃ x y z, Num.parse s.data.toList = (x, y, z) := ⟨_, _, _, rfl⟩
    have HR := Lib.hid (show r = !z by rw [← hr, hall, hp]; rfl)
    have HT := Lib.hid hT
    have HA := Lib.hid (show s.data.toList.all Dat.nameByte = true by rw [hall]; rfl)
    have HP := Lib.hid hp
    clear hr hall hT hp
    go_enter Tryz.func100, Tryz.ntmps100
    go_wp2_with (first | (go_at_call 136; refine (trim_marks s [] (by omega) HT.out _).mono ?_; rintro e' w1 ⟨rfl, hb⟩) | (go_at_call 137; refine (plain_to s true HA.out hs _).mono ?_; rintro e' w2 ⟨rfl, hb2⟩) | (go_at_call 138; refine (parse_to s x y z HP.out (by omega) _).mono ?_; rintro e' w3 ⟨rfl, hb3⟩))
    go_ret
    exact ⟨ret_bool HR.out.symm, Below.next (Below.next hb hb2) hb3⟩
end Go.Proofs.YtdlhocghiaghfaaGreatDoor

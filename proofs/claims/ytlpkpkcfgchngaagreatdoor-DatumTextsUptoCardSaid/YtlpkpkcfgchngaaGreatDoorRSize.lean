/-
  The contracts of corbelref02.size, Size, Same.
-/
import Derived.Test.YtlpkpkcfgchngaaGreatDoorRRightW
import Derived.Test.YtlpkpkcfgchngaaGreatDoorRAlike
import Derived.Test.YtlpkpkcfgchngaaGreatDoorRights
namespace Go.Proofs.YtlpkpkcfgchngaaGreatDoor
open Go.RowKit

set_option maxHeartbeats 2000000 in
set_option maxRecDepth 100000 in
theorem rsize1_any : ∀ (x : Dat) (v : Value) (deep B : Nat) (w : World), RepD w B x v → B ≤ w.heap.size → deep ≤ 1000 → Dat.all x ≤ 1000000 →
    Calls Tryz.prog 30 #[v, .int .i64 deep] w fun e w' => e = .returned (.int .i64 (Dat.size x deep : Nat)) ∧ Below w.heap.size w w' := by
  intro x
  induction x using Dat.ind with
  | h k n d s l ih =>
    intro v deep B w hv hB hdeep hall
    obtain ⟨sl, rfl, _, _, _, _, o, len, cap, rfl, hlen, hcap, hmax, hc0⟩ := hv.open
    have IH := Lib.hid ih
    have HV := Lib.hid hc0
    have HL := Lib.hid hlen
    have HU := Lib.hid (Uno.refl w #[.int .i64 k, .int .i64 n, .int .i64 d, .string s, .slice o len cap] 24)
    have HBB := Lib.hid hB
    clear ih hv hc0 hlen
    by_cases hd0 : ¬ deep < 1000
    · have HR := Lib.hid (show Dat.size (.mk k n d s l) deep = 1 by rw [Dat.size, if_neg hd0])
      have hd2 : decide ((deep : Int) < 1000) = false := decide_eq_false (by omega)
      go_enter Tryz.func30, Tryz.ntmps30
      go_wp2_with fail
      go_loopg [5, 6] 0 (fun g m i wr => g = 0 ∧ m = .int .i64 1 ∧ i = .int .i64 0 ∧ Uno w #[.int .i64 k, .int .i64 n, .int .i64 d, .string s, .slice o len cap] 24 wr)
      case atStart => exact ⟨rfl, rfl, rfl, HU.out⟩
      case round =>
        obtain ⟨rfl, rfl, rfl, hu⟩ := hrel
        have HU2 := Lib.hid hu
        have p4 := hu.cell 4 (v := .slice o len cap) rfl
        clear hu
        by_cases hln : 0 < len
        · go_wp2_with fail
          go_ret
          exact ⟨ret_int (by rw [HR.out]; rfl), HU2.out.below⟩
        · obtain rfl : len = 0 := by omega
          go_wp2_with fail
          go_ret
          exact ⟨ret_int (by rw [HR.out]; rfl), HU2.out.below⟩
    have hd1 : deep < 1000 := by omega
    have HR := Lib.hid (show Dat.size (.mk k n d s l) deep = 1 + Dat.sizeL l (deep + 1) by rw [Dat.size, if_pos hd1])
    have HA := Lib.hid (show Dat.allL l ≤ 1000000 by rw [Dat.all] at hall; omega)
    clear hall hd0
    have hd2 : decide ((deep : Int) < 1000) = true := decide_eq_true (by omega)
    go_enter Tryz.func30, Tryz.ntmps30
    go_wp2_with fail
    go_loopg [5, 6] len (fun g m i wr => ∃ (j : Nat), g = len - j ∧ m = .int .i64 ((1 + Dat.sizeL (l.take j) (deep + 1) : Nat) : Int) ∧ i = .int .i64 j ∧ j ≤ len ∧ Uno w #[.int .i64 k, .int .i64 n, .int .i64 d, .string s, .slice o len cap] 24 wr)
    case atStart => exact ⟨0, rfl, by simp [Dat.sizeL], rfl, by omega, HU.out⟩
    case round =>
      obtain ⟨j, rfl, rfl, rfl, hj, hu⟩ := hrel
      have HU2 := Lib.hid hu
      have p4 := hu.cell 4 (v := .slice o len cap) rfl
      have hsz := hu.size
      clear hu
      by_cases hjl : j < len
      · obtain ⟨x, hx⟩ : ∃ x, l[j]? = some x := ⟨_, List.getElem?_eq_getElem (by rw [← HL.out]; exact hjl)⟩
        obtain ⟨b, off, k', n', d', s', l', o', len', cap', ho, hxe, e0, e1, e2, e3, e4, er⟩ := part_at2 HV.out (HU2.out.below.mono HBB.out) hx
        subst ho hxe
        have HS := Lib.hid (sizeL_step (deep := deep + 1) hx)
        have g1 := Dat.all_mem (List.mem_of_getElem? hx)
        have g2 := HA.out
        have g3 : Dat.sizeL (l.take j) (deep + 1) ≤ 1000000 := Nat.le_trans (sizeL_le _ _) (Nat.le_trans (allL_take l j) HA.out)
        have HX := Lib.hid hx
        have ER := Lib.hid er
        clear hx er
        obtain ⟨y, hy⟩ : ∃ y, Dat.size (.mk k' n' d' s' l') (deep + 1) = y := ⟨_, rfl⟩
        have g4 := Dat.size_le (.mk k' n' d' s' l') (deep + 1)
        rw [hy] at HS g4
        have HY := Lib.hid hy
        clear hy
        have g5 : Dat.all (.mk k' n' d' s' l') ≤ 1000000 := by omega
        have hC : Calls Tryz.prog 30 #[.agg #[.int .i64 k', .int .i64 n', .int .i64 d', .string s', .slice o' len' cap'], .int .i64 ((deep : Int) + 1)] wr fun e w' => e = .returned (.int .i64 (y : Nat)) ∧ Below wr.heap.size wr w' := by
          have := IH.out (.mk k' n' d' s' l') (List.mem_of_getElem? HX.out) _ (deep + 1) B wr ER.out (by have := HBB.out; omega) (by omega) g5
          rw [HY.out] at this
          rw [show ((deep : Int) + 1) = ((deep + 1 : Nat) : Int) by omega]
          exact this
        have HCC := Lib.hid hC
        clear hC
        go_wp2_with (first | (go_at_call 30; refine HCC.out.mono ?_; rintro e2 w2 ⟨rfl, hb2⟩) | fail)
        go_roundg (len - (j + 1))
        case measure => omega
        case rel => exact ⟨j + 1, rfl, by rw [HS.out]; go_num, by go_num, by omega, HU2.out.next hb2⟩
      · have HR2 := Lib.hid (show Dat.sizeL (l.take j) (deep + 1) = Dat.sizeL l (deep + 1) by rw [List.take_of_length_le (by rw [← HL.out]; omega)])
        go_wp2_with fail
        go_ret
        exact ⟨ret_int (by rw [HR.out, HR2.out]), HU2.out.below⟩

set_option maxRecDepth 100000 in
theorem rSize_any (x : Dat) (v : Value) (B : Nat) (w : World) (hv : RepD w B x v) (hB : B ≤ w.heap.size) (ha : Dat.all x ≤ 1000000) :
    Calls Tryz.prog 11 #[v] w fun e w' => e = .returned (.int .i64 (Dat.size x 0 : Nat)) ∧ Below w.heap.size w w' := by
  obtain ⟨k, n, d, s, l⟩ := x
  obtain ⟨sl, rfl, _⟩ := hv.open
  have HV := Lib.hid hv
  have HA := Lib.hid ha
  clear hv ha
  obtain ⟨y, hy⟩ : ∃ y, Dat.size (.mk k n d s l) 0 = y := ⟨_, rfl⟩
  rw [hy]
  have HY := Lib.hid hy
  clear hy
  go_enter Tryz.func11, Tryz.ntmps11
  go_wp2_with (first | (go_at_call 30; refine (rsize1_any (.mk k n d s l) _ 0 B _ (HV.out.kept (((Below.refl _ _).alloc (Nat.le_refl _) _).mono hB)) (by simp; omega) (by omega) HA.out).mono ?_; rw [HY.out]; rintro e' w1 ⟨rfl, hb1⟩) | fail)
  go_ret
  exact ⟨rfl, ((Below.refl _ _).alloc (Nat.le_refl _) _).trans (hb1.mono (by simp))⟩

end Go.Proofs.YtlpkpkcfgchngaaGreatDoor

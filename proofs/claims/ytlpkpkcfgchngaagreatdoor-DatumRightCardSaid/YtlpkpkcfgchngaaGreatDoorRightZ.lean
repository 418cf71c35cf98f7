/-
  The walk of DatumRight.
-/
import Derived.Test.YtlpkpkcfgchngaaGreatDoorRSize
import Derived.BigRegion
namespace Go.Proofs.YtlpkpkcfgchngaaGreatDoor
open Go.RowKit

set_option maxHeartbeats 2000000 in
set_option maxRecDepth 100000 in
theorem datumRight_walk (x : Dat) (v : Value) (z : ByteArray) (hz : z.size ≤ 140737488351232) (w : World) (hv : RepD w w.heap.size x v) (hE : Env w) :
    Calls Tryz.prog 3 #[v, .string z] w fun e w' => e = .returned (.bool true) ∧ Below w.heap.size w w' := by
  obtain ⟨k, n, d, s, o, len, cap, rfl⟩ := agg_of hv
  have HV := Lib.hid hv
  have HE := Lib.hid hE
  clear hv hE
  have HU := Lib.hid (Uno.refl w #[.int .i64 k, .int .i64 n, .int .i64 d, .string s, .slice o len cap] 24)
  go_enter Tryz.func3, Tryz.ntmps3
  go_wp2_with fail
  refine (awake2_any _ (env_kept HE.out HU.out.below)).mono ?_
  rintro e' w1 ⟨rfl, hb1⟩
  have HU1 := Lib.hid (HU.out.next hb1)
  have hs1 := HU1.out.size
  clear hb1 HU
  have p0 := HU1.out.cell 0 (v := .int .i64 k) rfl
  have p1 := HU1.out.cell 1 (v := .int .i64 n) rfl
  have p2 := HU1.out.cell 2 (v := .int .i64 d) rfl
  have p3 := HU1.out.cell 3 (v := .string s) rfl
  have p4 := HU1.out.cell 4 (v := .slice o len cap) rfl
  obtain ⟨ya, hya⟩ : ∃ y, Dat.all x = y := ⟨_, rfl⟩
  obtain ⟨rx, hrx⟩ : ∃ r, Dat.right x 0 = r := ⟨_, rfl⟩
  obtain ⟨rn, hrn⟩ : ∃ r, Dat.name z.data.toList = r := ⟨_, rfl⟩
  obtain ⟨sx, hsx⟩ : ∃ r, Dat.size x 0 = r := ⟨_, rfl⟩
  have HYA := Lib.hid hya
  have HRX := Lib.hid hrx
  have HRN := Lib.hid hrn
  have HSX := Lib.hid hsx
  clear hya hrx hrn hsx
  by_cases ha : ya ≤ 3000
  · go_wp2_with fail
    refine (lfew_to _ _ 3000 w.heap.size _ true (by rw [HYA.out]; exact decide_eq_true (by omega)) (HV.out.kept HU1.out.below) (by omega) (by omega) (by omega)).mono ?_
    rintro e' w2 ⟨rfl, hb2⟩
    have HU2 := Lib.hid (HU1.out.next hb2)
    have hs2 := HU2.out.size
    clear hb2 HU1 p0 p1 p2 p3 p4 hs1
    have HD := Lib.hid (HU2.out.drew)
    go_wp2_with fail
    refine wp_region_quiet_class (Uno w #[.int .i64 k, .int .i64 n, .int .i64 d, .string s, .slice o len cap] 24) 22 (by kernel_rfl) (by kernel_rfl) HD.out ?_
    intro T _ W HW HW2
    have HWH := Lib.hid HW
    have hB : ∀ t, Below w.heap.size w (W t) := fun t => (HW t).below
    have hsz : ∀ t, w.heap.size ≤ (W t).heap.size := fun t => (hB t).size
    have hcl : ∀ t w', Below (W t).heap.size (W t) w' → ∃ t', w' = W t' := fun t w' hb => HW2 _ ((HW t).next hb)
    have e0 := fun t => (HW t).cell 0 (v := .int .i64 k) rfl
    have e1 := fun t => (HW t).cell 1 (v := .int .i64 n) rfl
    have e2 := fun t => (HW t).cell 2 (v := .int .i64 d) rfl
    have e3 := fun t => (HW t).cell 3 (v := .string s) rfl
    have e4 := fun t => (HW t).cell 4 (v := .slice o len cap) rfl
    have c1 : ∀ t, Calls Tryz.prog 8 #[.agg #[.int .i64 k, .int .i64 n, .int .i64 d, .string s, .slice o len cap]] (W t) fun e w' => e = .returned (.bool rx) ∧ ∃ t', w' = W t' := fun t =>
      (dright_to x _ w.heap.size (W t) rx HRX.out (HV.out.kept (hB t)) (hsz t)).mono fun e w' h => ⟨h.1, hcl t w' h.2⟩
    have c2 : ∀ t, Calls Tryz.prog 9 #[.agg #[.int .i64 k, .int .i64 n, .int .i64 d, .string s, .slice o len cap]] (W t) fun e w' => e = .returned (.bool rx) ∧ ∃ t', w' = W t' := fun t =>
      (rRight_to x _ w.heap.size (W t) rx HRX.out (HV.out.kept (hB t)) (hsz t)).mono fun e w' h => ⟨h.1, hcl t w' h.2⟩
    have c3 : ∀ t, Calls Tryz.prog 10 #[.agg #[.int .i64 k, .int .i64 n, .int .i64 d, .string s, .slice o len cap]] (W t) fun e w' => e = .returned (.int .i64 (sx : Int)) ∧ ∃ t', w' = W t' := fun t => by
      have := size_any x _ w.heap.size (W t) (HV.out.kept (hB t)) (hsz t) (by rw [HYA.out]; omega)
      rw [HSX.out] at this
      exact this.mono fun e w' h => ⟨h.1, hcl t w' h.2⟩
    have c4 : ∀ t, Calls Tryz.prog 11 #[.agg #[.int .i64 k, .int .i64 n, .int .i64 d, .string s, .slice o len cap]] (W t) fun e w' => e = .returned (.int .i64 (sx : Int)) ∧ ∃ t', w' = W t' := fun t => by
      have := rSize_any x _ w.heap.size (W t) (HV.out.kept (hB t)) (hsz t) (by rw [HYA.out]; omega)
      rw [HSX.out] at this
      exact this.mono fun e w' h => ⟨h.1, hcl t w' h.2⟩
    have c5 : ∀ t, Calls Tryz.prog 12 #[.string z] (W t) fun e w' => e = .returned (.bool rn) ∧ ∃ t', w' = W t' := fun t =>
      (name_to z rn HRN.out hz (W t)).mono fun e w' h => ⟨h.1, hcl t w' h.2⟩
    have c6 : ∀ t, Calls Tryz.prog 13 #[.string z] (W t) fun e w' => e = .returned (.bool rn) ∧ ∃ t', w' = W t' := fun t =>
      (rname_to z rn HRN.out hz (W t)).mono fun e w' h => ⟨h.1, hcl t w' h.2⟩
    have H1 := Lib.hid c1
    have H2 := Lib.hid c2
    have H3 := Lib.hid c3
    have H4 := Lib.hid c4
    have H5 := Lib.hid c5
    have H6 := Lib.hid c6
    clear HW HW2 hB hsz hcl c1 c2 c3 c4 c5 c6
    simp only [List.take_succ_cons, List.take_zero, List.drop_succ_cons, List.drop_zero]
    cases rx <;> cases rn
    all_goals
      repeat (go_big_quiet_step (first
        | (go_at_call 8; exact H1.out _)
        | (go_at_call 9; exact H2.out _)
        | (go_at_call 10; exact H3.out _)
        | (go_at_call 11; exact H4.out _)
        | (go_at_call 12; exact H5.out _)
        | (go_at_call 13; exact H6.out _)
        | fail))
      refine wpQuiet_nil ?_
      intro t
      go_wp2
      go_ret
      exact ⟨rfl, (HWH.out t).below⟩
  · go_wp2_with fail
    refine (lfew_to _ _ 3000 w.heap.size _ false (by rw [HYA.out]; exact decide_eq_false (by omega)) (HV.out.kept HU1.out.below) (by omega) (by omega) (by omega)).mono ?_
    rintro e' w2 ⟨rfl, hb2⟩
    go_wp2_with fail
    go_ret
    exact ⟨rfl, (HU1.out.next hb2).below⟩
end Go.Proofs.YtlpkpkcfgchngaaGreatDoor

/-
  The walk of DatumAlike.
-/
import Derived.Test.YtlpkpkcfgchngaaDoorPartsW
import Derived.Test.YtlpkpkcfgchngaaDoorEqual
import Derived.Test.YtlpkpkcfgchngaaDoorDatText
import Derived.BigRegion
namespace Go.Proofs.YtlpkpkcfgchngaaDoor
open Go.RowKit

/-- The five cells of a datum that lies in a box. -/
def Five (w : World) (b : Nat) (v0 v1 v2 v3 v4 : Value) : Prop :=
  w.cell? ⟨b, 0, none⟩ = some v0 ∧ w.cell? ⟨b, 1, none⟩ = some v1 ∧ w.cell? ⟨b, 2, none⟩ = some v2 ∧ w.cell? ⟨b, 3, none⟩ = some v3 ∧ w.cell? ⟨b, 4, none⟩ = some v4
theorem Five.kept {w w' : World} {b : Nat} {v0 v1 v2 v3 v4 : Value} (h : Five w b v0 v1 v2 v3 v4) (hb : Below w.heap.size w w') : Five w' b v0 v1 v2 v3 v4 := by
  have hlt := cell_lt h.1
  have g : ∀ o, w'.cell? ⟨b, o, none⟩ = w.cell? ⟨b, o, none⟩ := fun o => hb.cell (p := ⟨b, o, none⟩) hlt
  exact ⟨(g _).trans h.1, (g _).trans h.2.1, (g _).trans h.2.2.1, (g _).trans h.2.2.2.1, (g _).trans h.2.2.2.2⟩

theorem alike_ext {s s' : ByteArray} (h : s.toList = s'.toList) : s = s' := by
  apply ByteArray.ext; apply Array.ext'
  rw [← ByteArray.toList_eq, ← ByteArray.toList_eq]; exact h
theorem full_right {x : Dat} (h : Dat.right x 0 = true) : Dat.full x = Dat.text x false := by unfold Dat.full; rw [h]; rfl
theorem full_wrong {x : Dat} (h : Dat.right x 0 = false) : Dat.full x = [] := by unfold Dat.full; rw [h]; rfl

/-- Two right data are alike if and only if their texts are one. -/
theorem alike_full {x y : Dat} (hx : Dat.right x 0 = true) (hy : Dat.right y 0 = true) : Dat.alike x y = decide ((⟨(Dat.full x).toArray⟩ : ByteArray) = ⟨(Dat.full y).toArray⟩) := by
  rw [Bool.eq_iff_iff, Dat.alike_iff, decide_eq_true_eq, full_right hx, full_right hy]
  constructor
  · rintro rfl; rfl
  · intro h
    refine Dat.text_inj hx hy ?_
    have := congrArg (fun b : ByteArray => b.data.toList) h
    simpa using this

set_option maxHeartbeats 4000000 in
set_option maxRecDepth 100000 in
theorem datumAlike_walk (x y : Dat) (v u : Value) (w : World) (hv : RepD w w.heap.size x v) (hu : RepD w w.heap.size y u) (hE : Env w) (hlx : (Dat.text x false).length ≤ 140737488355328) (hly : (Dat.text y false).length ≤ 140737488355328) :
    Calls Tryd.prog 5 #[v, u] w fun e w' => e = .returned (.bool true) ∧ Below w.heap.size w w' := by
  obtain ⟨k, n, d, s, o, len, cap, rfl⟩ := agg_of hv
  obtain ⟨k', n', d', s', o', len', cap', rfl⟩ := agg_of hu
  have HV := Lib.hid hv
  have HU := Lib.hid hu
  have HLX := Lib.hid hlx
  have HLY := Lib.hid hly
  have HE := Lib.hid hE
  clear hv hu hlx hly hE
  have HK := Lib.hid (fun X Y => ((Below.refl w.heap.size w).alloc (Nat.le_refl _) X).alloc (by simp) Y)
  go_enter Tryd.func5, Tryd.ntmps5
  go_wp2_with fail
  refine (awake2_any _ (env_kept HE.out (HK.out _ _))).mono ?_
  rintro e' w1 ⟨rfl, hb1⟩
  have HA1 : RowKit.Hid (Five w1 w.heap.size (.int .i64 k) (.int .i64 n) (.int .i64 d) (.string s) (.slice o len cap)) := Lib.hid (two_five hb1)
  have HC1 : RowKit.Hid (Five w1 (w.heap.size + 1) (.int .i64 k') (.int .i64 n') (.int .i64 d') (.string s') (.slice o' len' cap')) := Lib.hid (two_five2 hb1)
  have HB1 := Lib.hid (two_below hb1)
  have hs1 := two_size hb1
  clear hb1
  obtain ⟨p0, p1, p2, p3, p4⟩ := HA1.out
  obtain ⟨q0, q1, q2, q3, q4⟩ := HC1.out
  obtain ⟨ya, hya⟩ : ∃ y, Dat.all x = y := ⟨_, rfl⟩
  obtain ⟨yb, hyb⟩ : ∃ z, Dat.all y = z := ⟨_, rfl⟩
  obtain ⟨rx, hrx⟩ : ∃ r, Dat.right x 0 = r := ⟨_, rfl⟩
  obtain ⟨ry, hry⟩ : ∃ r, Dat.right y 0 = r := ⟨_, rfl⟩
  obtain ⟨ql, hql⟩ : ∃ r, Dat.alike x y = r := ⟨_, rfl⟩
  have HYA := Lib.hid hya
  have HYB := Lib.hid hyb
  have HRX := Lib.hid hrx
  have HRY := Lib.hid hry
  have HQL := Lib.hid hql
  clear hya hyb hrx hry hql
  by_cases ha : ya ≤ 1000
  · go_wp2_with fail
    refine (lfew_to _ _ 1000 w.heap.size _ true (by rw [HYA.out]; exact decide_eq_true (by omega)) (HV.out.kept HB1.out) (by omega) (by omega) (by omega)).mono ?_
    rintro e' w2 ⟨rfl, hb2⟩
    have HB2 := Lib.hid (Below.next HB1.out hb2)
    have HA2 := Lib.hid (HA1.out.kept hb2)
    have HC2 := Lib.hid (HC1.out.kept hb2)
    have hs2 := hb2.size
    clear hb2 p0 p1 p2 p3 p4 q0 q1 q2 q3 q4
    obtain ⟨p0, p1, p2, p3, p4⟩ := HA2.out
    obtain ⟨q0, q1, q2, q3, q4⟩ := HC2.out
    by_cases hb : yb ≤ 1000
    · go_wp2_with fail
      refine (lfew_to _ _ 1000 w.heap.size _ true (by rw [HYB.out]; exact decide_eq_true (by omega)) (HU.out.kept HB2.out) (by omega) (by omega) (by omega)).mono ?_
      rintro e' w3 ⟨rfl, hb3⟩
      have HB3 := Lib.hid (Below.next HB2.out hb3)
      have HA3 := Lib.hid (HA2.out.kept hb3)
      have HC3 := Lib.hid (HC2.out.kept hb3)
      have hs3 := hb3.size
      clear hb3 p0 p1 p2 p3 p4 q0 q1 q2 q3 q4
      obtain ⟨p0, p1, p2, p3, p4⟩ := HA3.out
      obtain ⟨q0, q1, q2, q3, q4⟩ := HC3.out
      go_wp2_with fail
      refine (dright_to _ _ w.heap.size _ rx HRX.out (HV.out.kept HB3.out) (by omega)).mono ?_
      rintro e' w4 ⟨rfl, hb4⟩
      have HB4 := Lib.hid (Below.next HB3.out hb4)
      have HA4 := Lib.hid (HA3.out.kept hb4)
      have HC4 := Lib.hid (HC3.out.kept hb4)
      have hs4 := hb4.size
      clear hb4 p0 p1 p2 p3 p4 q0 q1 q2 q3 q4
      obtain ⟨p0, p1, p2, p3, p4⟩ := HA4.out
      obtain ⟨q0, q1, q2, q3, q4⟩ := HC4.out
      go_wp2_with fail
      refine (dright_to _ _ w.heap.size _ ry HRY.out (HU.out.kept HB4.out) (by omega)).mono ?_
      rintro e' w5 ⟨rfl, hb5⟩
      have HB5 := Lib.hid (Below.next HB4.out hb5)
      have HA5 := Lib.hid (HA4.out.kept hb5)
      have HC5 := Lib.hid (HC4.out.kept hb5)
      have hs5 := hb5.size
      clear hb5 p0 p1 p2 p3 p4 q0 q1 q2 q3 q4
      obtain ⟨p0, p1, p2, p3, p4⟩ := HA5.out
      obtain ⟨q0, q1, q2, q3, q4⟩ := HC5.out
      have HD := Lib.hid ((Below.refl w5.heap.size w5).drew)
      go_wp2_with fail
      refine wp_region_quiet_class (Below w5.heap.size w5) 42 (by kernel_rfl) (by kernel_rfl) HD.out ?_
      intro T _ W HW HW2
      have HWH := Lib.hid HW
      have HW2H := Lib.hid HW2
      have hB : ∀ t, Below w.heap.size w (W t) := fun t => Below.next HB5.out (HW t)
      have hsz : ∀ t, w.heap.size ≤ (W t).heap.size := fun t => (hB t).size
      have hcl : ∀ t w', Below (W t).heap.size (W t) w' → ∃ t', w' = W t' := fun t w' hb => HW2 _ (Below.next (HW t) hb)
      have cAA : ∀ t, Calls Tryd.prog 14 #[.agg #[.int .i64 k, .int .i64 n, .int .i64 d, .string s, .slice o len cap], .agg #[.int .i64 k, .int .i64 n, .int .i64 d, .string s, .slice o len cap]] (W t) fun e w' => e = .returned (.bool rx) ∧ ∃ t', w' = W t' := fun t => by
        have := same_any x x _ _ w.heap.size (W t) (HV.out.kept (hB t)) (HV.out.kept (hB t)) (hsz t)
        rw [HRX.out, Dat.alike_self, Bool.and_true, Bool.and_self] at this
        exact this.mono fun e w' h => ⟨h.1, hcl t w' h.2⟩
      have cAB : ∀ t, Calls Tryd.prog 14 #[.agg #[.int .i64 k, .int .i64 n, .int .i64 d, .string s, .slice o len cap], .agg #[.int .i64 k', .int .i64 n', .int .i64 d', .string s', .slice o' len' cap']] (W t) fun e w' => e = .returned (.bool (rx && (ry && ql))) ∧ ∃ t', w' = W t' := fun t => by
        have := same_any x y _ _ w.heap.size (W t) (HV.out.kept (hB t)) (HU.out.kept (hB t)) (hsz t)
        rw [HRX.out, HRY.out, HQL.out] at this
        exact this.mono fun e w' h => ⟨h.1, hcl t w' h.2⟩
      have cBA : ∀ t, Calls Tryd.prog 14 #[.agg #[.int .i64 k', .int .i64 n', .int .i64 d', .string s', .slice o' len' cap'], .agg #[.int .i64 k, .int .i64 n, .int .i64 d, .string s, .slice o len cap]] (W t) fun e w' => e = .returned (.bool (rx && (ry && ql))) ∧ ∃ t', w' = W t' := fun t => by
        have := same_any y x _ _ w.heap.size (W t) (HU.out.kept (hB t)) (HV.out.kept (hB t)) (hsz t)
        rw [HRX.out, HRY.out, Dat.alike_symm, HQL.out, Bool.and_left_comm] at this
        exact this.mono fun e w' h => ⟨h.1, hcl t w' h.2⟩
      have cTA : ∀ t, Calls Tryd.prog 10 #[.agg #[.int .i64 k, .int .i64 n, .int .i64 d, .string s, .slice o len cap]] (W t) fun e w' => e = .returned (.string ⟨(Dat.full x).toArray⟩) ∧ ∃ t', w' = W t' := fun t =>
        (dtext_any x _ w.heap.size (W t) (HV.out.kept (hB t)) (hsz t) (env_kept HE.out (hB t)) (fun _ => HLX.out)).mono fun e w' h => ⟨h.1, hcl t w' h.2⟩
      have cTB : ∀ t, Calls Tryd.prog 10 #[.agg #[.int .i64 k', .int .i64 n', .int .i64 d', .string s', .slice o' len' cap']] (W t) fun e w' => e = .returned (.string ⟨(Dat.full y).toArray⟩) ∧ ∃ t', w' = W t' := fun t =>
        (dtext_any y _ w.heap.size (W t) (HU.out.kept (hB t)) (hsz t) (env_kept HE.out (hB t)) (fun _ => HLY.out)).mono fun e w' h => ⟨h.1, hcl t w' h.2⟩
      have fA : ∀ t, Five (W t) w.heap.size (.int .i64 k) (.int .i64 n) (.int .i64 d) (.string s) (.slice o len cap) := fun t => HA5.out.kept (HW t)
      have fC : ∀ t, Five (W t) (w.heap.size + 1) (.int .i64 k') (.int .i64 n') (.int .i64 d') (.string s') (.slice o' len' cap') := fun t => HC5.out.kept (HW t)
      have e0 := fun t => (fA t).1
      have e1 := fun t => (fA t).2.1
      have e2 := fun t => (fA t).2.2.1
      have e3 := fun t => (fA t).2.2.2.1
      have e4 := fun t => (fA t).2.2.2.2
      have g0 := fun t => (fC t).1
      have g1 := fun t => (fC t).2.1
      have g2 := fun t => (fC t).2.2.1
      have g3 := fun t => (fC t).2.2.2.1
      have g4 := fun t => (fC t).2.2.2.2
      have hTT : rx = true → ry = true → decide ((⟨(Dat.full x).toArray⟩ : ByteArray) = ⟨(Dat.full y).toArray⟩) = (rx && (ry && ql)) := fun h1 h2 => by
        rw [h1, h2, Bool.true_and, Bool.true_and, ← HQL.out, alike_full (HRX.out.trans h1) (HRY.out.trans h2)]
      have hTF : rx = false → (⟨(Dat.full x).toArray⟩ : ByteArray) = ⟨#[]⟩ := fun h1 => by rw [full_wrong (HRX.out.trans h1)]
      have HAA := Lib.hid cAA
      have HAB := Lib.hid cAB
      have HBA := Lib.hid cBA
      have HTA := Lib.hid cTA
      have HTB := Lib.hid cTB
      have HTT := Lib.hid hTT
      have HTF := Lib.hid hTF
      generalize (⟨(Dat.full x).toArray⟩ : ByteArray) = ta at *
      generalize (⟨(Dat.full y).toArray⟩ : ByteArray) = tb at *
      clear HW HW2 hB hsz hcl cAA cAB cBA cTA cTB fA fC hTT hTF p0 p1 p2 p3 p4 q0 q1 q2 q3 q4
      simp only [List.take_succ_cons, List.take_zero, List.drop_succ_cons, List.drop_zero]
      generalize (rx && (ry && ql)) = qv at *
      cases rx
      · obtain rfl := HTF.out rfl
        clear HTF HTT
        repeat (go_big_quiet_step (first | (go_at_call 14; first | (with_reducible exact HAA.out _) | (with_reducible exact HAB.out _) | (with_reducible exact HBA.out _) | fail) | (go_at_call 10; first | (with_reducible exact HTA.out _) | (with_reducible exact HTB.out _) | fail) | fail))
        refine wpQuiet_nil ?_
        intro t
        go_wp2
        go_ret
        exact ⟨rfl, Below.next HB5.out (HWH.out t)⟩
      cases ry
      · clear HTF HTT
        repeat (go_big_quiet_step (first | (go_at_call 14; first | (with_reducible exact HAA.out _) | (with_reducible exact HAB.out _) | (with_reducible exact HBA.out _) | fail) | (go_at_call 10; first | (with_reducible exact HTA.out _) | (with_reducible exact HTB.out _) | fail) | fail))
        refine wpQuiet_nil ?_
        intro t
        go_wp2
        go_ret
        exact ⟨rfl, Below.next HB5.out (HWH.out t)⟩
      · have hT := HTT.out rfl rfl
        clear HTF HTT
        by_cases he : ta.toList = tb.toList
        · obtain rfl : ta = tb := alike_ext he
          obtain rfl : true = qv := by rw [← hT]; simp
          clear hT he
          repeat (go_big_quiet_step (first | (go_at_call 14; first | (with_reducible exact HAA.out _) | (with_reducible exact HAB.out _) | (with_reducible exact HBA.out _) | fail) | (go_at_call 10; first | (with_reducible exact HTA.out _) | (with_reducible exact HTB.out _) | fail) | fail))
          refine wpQuiet_nil ?_
          intro t
          go_wp2
          go_ret
          exact ⟨rfl, Below.next HB5.out (HWH.out t)⟩
        · obtain rfl : false = qv := by rw [← hT]; exact (decide_eq_false (fun h => he (by rw [h]))).symm
          clear hT
          have he4 : (ta.toList == tb.toList) = false := by rw [beq_eq_false_iff_ne]; exact he
          repeat (go_big_quiet_step (first | (go_at_call 14; first | (with_reducible exact HAA.out _) | (with_reducible exact HAB.out _) | (with_reducible exact HBA.out _) | fail) | (go_at_call 10; first | (with_reducible exact HTA.out _) | (with_reducible exact HTB.out _) | fail) | fail))
          refine wpQuiet_nil ?_
          intro t
          go_wp2
          go_ret
          exact ⟨rfl, Below.next HB5.out (HWH.out t)⟩
    · go_wp2_with fail
      refine (lfew_to _ _ 1000 w.heap.size _ false (by rw [HYB.out]; exact decide_eq_false (by omega)) (HU.out.kept HB2.out) (by omega) (by omega) (by omega)).mono ?_
      rintro e' w3 ⟨rfl, hb3⟩
      go_wp2
      go_ret
      exact ⟨rfl, Below.next HB2.out hb3⟩
  · go_wp2_with fail
    refine (lfew_to _ _ 1000 w.heap.size _ false (by rw [HYA.out]; exact decide_eq_false (by omega)) (HV.out.kept HB1.out) (by omega) (by omega) (by omega)).mono ?_
    rintro e' w2 ⟨rfl, hb2⟩
    go_wp2
    go_ret
    exact ⟨rfl, Below.next HB1.out hb2⟩
end Go.Proofs.YtlpkpkcfgchngaaDoor

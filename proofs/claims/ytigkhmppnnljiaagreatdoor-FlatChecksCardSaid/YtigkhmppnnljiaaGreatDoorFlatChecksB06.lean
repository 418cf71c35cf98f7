/-
  What the proofs lean on: FChecksW.
-/
import Derived.BigQuiet
import Derived.Test.YtigkhmppnnljiaaGreatDoorFlatA35
import Derived.Test.YtigkhmppnnljiaaGreatDoorFlatChecksB05
namespace Go.Proofs.YtigkhmppnnljiaaGreatDoor
open Go Go.RowKit

theorem err_great {u : Unt} (h : 1000 < u.procs.length) : u.err = 5 := err_no (by rw [Unt.okB]; simp; omega)
set_option maxRecDepth 100000 in
theorem rcheck_great (u : Unt) (v : Value) (B : Nat) (w : World) (hv : UntR w B u v) (hg : 1000 < u.procs.length) :
    Calls Tryz.prog 13 #[v] w fun e w' => e = .returned (.int .i64 u.err) ∧ Below w.heap.size w w' := by
  rw [err_great hg]
  obtain ⟨cv, pv, rfl, hc, hp⟩ := hv
  obtain ⟨op, np, cp, rfl, hnp, hcapp, hmaxp⟩ := hp.slice
  obtain ⟨ok, nk, ck, rfl, hnk, hcapk, hmaxk, hck⟩ := hc
  have c2 : (1000 : Int) < np := by omega
  have c1 : ¬ (np : Int) < 1 := by omega
  clear hp hnk hck hnp hg
  go_enter Tryz.func13, Tryz.ntmps13
  go_wp2_with fail
  go_ret
  exact ⟨rfl, Below.one _ _⟩

/-- A procedure whose lists are short, as far as the law looks. -/
def ShortP (p : Proc) : Prop := (p.code.length ≤ 200 ∨ 50000 < p.code.length) ∧ ∀ (k : Nat) (x : Ins), k < 200 → p.code[k]? = some x → x.l.length ≤ 200
theorem ShortP.lists {p : Proc} (h : ShortP p) (hl : p.code.length ≤ 50000) : ∀ x ∈ p.code, x.l.length ≤ 1000000 := fun x hx => by
  obtain ⟨k, hk⟩ := List.getElem?_of_mem hx
  have := (List.getElem?_eq_some_iff.1 hk).1
  have := h.2 k x (by rcases h.1 with h1 | h1 <;> omega) hk
  omega

set_option maxHeartbeats 16000000 in
set_option maxRecDepth 100000 in
theorem flatChecks_walk (u : Unt) (v : Value) (w : World) (hv : UntR w w.heap.size u v) :
    Calls Tryz.prog 3 #[v] w fun e w' => e = .returned (.bool true) ∧ Below w.heap.size w w' := by
  obtain ⟨B, hBe⟩ : ∃ B, w.heap.size = B := ⟨_, rfl⟩
  rw [hBe] at hv
  have hB : B ≤ w.heap.size := by omega
  have HBE := Lib.hid hBe
  have HV := Lib.hid hv
  obtain ⟨cv, pv, rfl, hc, hp⟩ := hv
  obtain ⟨op, np, cp, rfl, hnp, hcapp, hmaxp⟩ := hp.slice
  have HCS := Lib.hid hc
  obtain ⟨ok, nk, ck, rfl, hnk⟩ := hc
  clear hnk hBe
  have HP := Lib.hid hp
  have HNP := Lib.hid hnp
  clear hp hnp
  obtain ⟨W1, hW1⟩ : ∃ W1, w.alloc (.cells #[.slice ok nk ck, .slice op np cp] 25) = W1 := ⟨_, rfl⟩
  have HB1 := Lib.hid (show Below w.heap.size w W1 from by rw [← hW1]; exact Below.one w _)
  have HX1 := Lib.hid (show BoxL W1 w.heap.size 25 [.slice ok nk ck, .slice op np cp] from by rw [← hW1]; exact BoxL.new rfl _ _)
  have HW1 := Lib.hid hW1
  have HA := Lib.hid (awake14_any W1)
  clear hW1
  go_enter Tryz.func3, Tryz.ntmps3
  go_upto_region 1 with fail
  rw [HW1.out]
  go_wp2_with fail
  with_reducible refine HA.out.mono ?_
  rintro e w2 ⟨rfl, hb2⟩
  have HB2 := Lib.hid (HB1.out.trans (hb2.mono HB1.out.size))
  have HX2 := Lib.hid (HX1.out.keep hb2)
  clear hb2 HA HW1
  have u0 := HX2.out.cell 0 rfl
  have u1 := HX2.out.cell 1 rfl
  have ul := HX2.out.lt
  by_cases c1 : 50 < np ∧ np ≤ 1000
  · have d1 : decide ((50 : Int) < (np : Int)) = true := decide_eq_true (by omega)
    have d2 : decide ((np : Int) ≤ 1000) = true := decide_eq_true (by omega)
    go_wp2_with fail
    all_goals go_ret
    all_goals exact ⟨rfl, HB2.out⟩
  obtain ⟨q1, hq1⟩ : ∃ q1, decide ((Dat.allL u.consts : Int) ≤ 2000) = q1 := ⟨_, rfl⟩
  have HC1 := Lib.hid (rfewAll_to u.consts (.slice ok nk ck) 2000 B w2 (HCS.out.kept (HB2.out.mono hB)) (by have := HB2.out.size; omega) (by omega) (by omega) q1 hq1)
  clear hq1
  go_upto_region 2 with fail
  go_cut [22] from 7 to 22 (fun c wx => c = .bool (!q1) ∧ Hid (Below w2.heap.size w2 wx))
  case first => as_aux_lemma =>
    by_cases c2 : 50 < np
    · have d1 : decide ((50 : Int) < (np : Int)) = true := decide_eq_true (by omega)
      have d2 : decide ((np : Int) ≤ 1000) = false := decide_eq_false (by omega)
      go_wp2_with fail
      with_reducible refine HC1.out.mono ?_
      rintro e w3 ⟨rfl, hb3⟩
      have HB3 := Lib.hid hb3
      clear hb3 HC1 u0 u1 ul
      go_wp2_with fail
      go_meet
      exact ⟨rfl, HB3⟩
    · have d1 : decide ((50 : Int) < (np : Int)) = false := decide_eq_false (by omega)
      go_wp2_with fail
      with_reducible refine HC1.out.mono ?_
      rintro e w3 ⟨rfl, hb3⟩
      have HB3 := Lib.hid hb3
      clear hb3 HC1 u0 u1 ul
      go_wp2_with fail
      go_meet
      exact ⟨rfl, HB3⟩
  case rest =>
  obtain ⟨rfl, HB3⟩ := hcut
  clear HC1 u0 u1 ul
  have HX3 := Lib.hid (HX2.out.keep HB3.out)
  have HB4 := Lib.hid (HB2.out.trans (HB3.out.mono HB2.out.size))
  have u0 := HX3.out.cell 0 rfl
  have u1 := HX3.out.cell 1 rfl
  have ul := HX3.out.lt
  cases q1 with
  | false =>
    simp only [Bool.not_false]
    go_wp2_with fail
    all_goals go_ret
    all_goals exact ⟨rfl, HB4.out⟩
  | true =>
    simp only [Bool.not_true]
    have HS0 := Lib.hid (show ∀ (i : Nat) (p : Proc), i < 0 → u.procs[i]? = some p → ShortP p from fun i p h => absurd h (by omega))
    go_wp2_with fail
    go_loopg [4] np (fun g i wr => ∃ j : Nat, g = np - j ∧ j ≤ np ∧ j ≤ 50 ∧ i = .int .i64 j ∧ Hid (∀ (i : Nat) (p : Proc), i < j → u.procs[i]? = some p → ShortP p) ∧ wc = wr)
    case atStart => exact ⟨0, rfl, by omega, by omega, rfl, HS0, rfl⟩
    case round =>
      obtain ⟨j, rfl, hj, hj50, rfl, HS, rfl⟩ := hrel
      clear HS0
      by_cases hjl : j < np ∧ j < 50
      · have hjn := hjl.1
        have hj5 := hjl.2
        have g50 : decide ((j : Int) < 50) = true := decide_eq_true (by omega)
        obtain ⟨p, hx⟩ : ∃ p, u.procs[j]? = some p := ⟨_, List.getElem?_eq_getElem (by rw [← HNP.out]; exact hjl.1)⟩
        obtain ⟨b1, off1, cs, ho1, hbB, hcl, hcell, hpr⟩ := HP.out.at (HB4.out.mono hB) hx
        subst ho1
        obtain ⟨args, rest, regs, code, alive⟩ := p
        obtain ⟨sl, al, rfl, hbargs, hbregs, hcode, halive⟩ := hpr
        obtain ⟨oc, m, cc, rfl⟩ := hcode.form
        obtain ⟨hm, hcapc, hmaxc⟩ := hcode.lens
        dsimp only at hm hcode
        have e3 := hcell 3 _ rfl
        have HX := Lib.hid hx
        have HM := Lib.hid hm
        have HCODE := Lib.hid hcode
        have HHC := Lib.hid hcell
        clear hx hcell hcl hcode halive hm hbargs hbregs hjl
        by_cases a1 : 200 < m ∧ m ≤ 50000
        · have f1 : decide ((200 : Int) < (m : Int)) = true := decide_eq_true (by omega)
          have f2 : decide ((m : Int) ≤ 50000) = true := decide_eq_true (by omega)
          go_wp2_with fail
          all_goals go_ret
          all_goals exact ⟨rfl, HB4.out⟩
        go_upto_region 7 with fail
        go_cut [52] from 35 to 52 (fun c wx => c = .bool false ∧ wc = wx)
        case first => as_aux_lemma =>
          by_cases a2 : 200 < m
          · have f1 : decide ((200 : Int) < (m : Int)) = true := decide_eq_true (by omega)
            have f2 : decide ((m : Int) ≤ 50000) = false := decide_eq_false (by omega)
            go_wp2_with fail
            go_meet
            exact ⟨rfl, rfl⟩
          · have f1 : decide ((200 : Int) < (m : Int)) = false := decide_eq_false (by omega)
            go_wp2_with fail
            go_meet
            exact ⟨rfl, rfl⟩
        case rest =>
        obtain ⟨rfl, rfl⟩ := hcut
        have HK0 := Lib.hid (show ∀ (k : Nat) (x : Ins), k < 0 → code[k]? = some x → x.l.length ≤ 200 from fun k x h => absurd h (by omega))
        go_wp2_with fail
        go_loopg [5] m (fun g i wr => ∃ k : Nat, g = m - k ∧ k ≤ m ∧ k ≤ 200 ∧ i = .int .i64 k ∧ Hid (∀ (i : Nat) (x : Ins), i < k → code[i]? = some x → x.l.length ≤ 200) ∧ wc = wr)
        case atStart => exact ⟨0, rfl, by omega, by omega, rfl, HK0, rfl⟩
        case round =>
          obtain ⟨k, rfl, hk, hk2, rfl, HK, rfl⟩ := hrel
          clear HK0
          by_cases hkl : k < m ∧ k < 200
          · have hkm := hkl.1
            have hk3 := hkl.2
            have g51 : decide ((k : Int) < 200) = true := decide_eq_true (by omega)
            obtain ⟨x, hx⟩ : ∃ x, code[k]? = some x := ⟨_, List.getElem?_eq_getElem (by rw [← HM.out]; exact hkl.1)⟩
            obtain ⟨b2, off2, ds, ho2, hb2B, hdl, hdcell, hins⟩ := HCODE.out.at (HB4.out.mono hB) hx
            subst ho2
            obtain ⟨sl, rfl, _, _, _, _, hsl⟩ := hins
            obtain ⟨o4, l4, c4, rfl⟩ := hsl.form
            have g4 := hdcell 4 _ rfl
            have HL4 := Lib.hid hsl.lens.1
            have HXX := Lib.hid hx
            clear hx hdcell hdl hsl hkl
            by_cases a3 : 200 < l4
            · have f3 : decide ((200 : Int) < (l4 : Int)) = true := decide_eq_true (by omega)
              go_wp2_with fail
              all_goals go_ret
              all_goals exact ⟨rfl, HB4.out⟩
            · have f3 : decide ((200 : Int) < (l4 : Int)) = false := decide_eq_false (by omega)
              have HK2 := Lib.hid (show ∀ (i : Nat) (x : Ins), i < k + 1 → code[i]? = some x → x.l.length ≤ 200 from fun i y hi hy => by
                by_cases h : i = k
                · subst h
                  obtain rfl : x = y := Option.some.inj (HXX.out.symm.trans hy)
                  have := HL4.out
                  omega
                · exact HK.out i y (by omega) hy)
              go_wp2_with fail
              go_roundg (m - (k + 1))
              case measure => omega
              case rel => exact ⟨k + 1, rfl, by omega, by omega, by go_num, HK2, rfl⟩
          · have HS2 := Lib.hid (show ∀ (i : Nat) (p : Proc), i < j + 1 → u.procs[i]? = some p → ShortP p from fun i y hi hy => by
              by_cases h : i = j
              · subst h
                obtain rfl : _ = y := Option.some.inj (HX.out.symm.trans hy)
                refine ⟨by have := HM.out; dsimp only; omega, fun q x hq hx => ?_⟩
                dsimp only at hx
                have := (List.getElem?_eq_some_iff.1 hx).1
                have := HM.out
                exact HK.out q x (by omega) hx
              · exact HS.out i y (by omega) hy)
            by_cases a2 : k < m
            · have hk3 : ¬ k < 200 := fun h => hkl ⟨a2, h⟩
              clear hkl
              go_wp2_with fail
              go_roundg (np - (j + 1))
              case measure => omega
              case rel => exact ⟨j + 1, rfl, by omega, by omega, by go_num, HS2, rfl⟩
            · clear hkl
              go_wp2_with fail
              go_roundg (np - (j + 1))
              case measure => omega
              case rel => exact ⟨j + 1, rfl, by omega, by omega, by go_num, HS2, rfl⟩
      · have HRC := Lib.hid (show ∀ W', Below wc.heap.size wc W' → Calls Tryz.prog 13 #[.agg #[.slice ok nk ck, .slice op np cp]] W' fun e w' => e = .returned (.int .i64 u.err) ∧ Below W'.heap.size W' w' from fun W' hb => by
          have hv' := HV.out.kept ((HB4.out.trans (hb.mono HB4.out.size)).mono hB)
          by_cases c2 : 50 < np
          · exact rcheck_great u _ B W' hv' (by have := HNP.out; omega)
          · refine rcheck_any u _ B W' hv' (by have := HB4.out.size; have := hb.size; omega) (fun p hp hl => ?_)
            obtain ⟨i, hi⟩ := List.getElem?_of_mem hp
            have := (List.getElem?_eq_some_iff.1 hi).1
            have := HNP.out
            exact (HS.out i p (by omega) hi).lists hl)
        have HFC := Lib.hid (show ∀ W', Below wc.heap.size wc W' → Calls Tryz.prog 12 #[.agg #[.slice ok nk ck, .slice op np cp]] W' fun e w' => e = .returned (.int .i64 u.err) ∧ Below W'.heap.size W' w' from fun W' hb => fcheck_any u _ B W' (HV.out.kept ((HB4.out.trans (hb.mono HB4.out.size)).mono hB)) (by have := HB4.out.size; have := hb.size; omega))
        obtain ⟨E, hE⟩ : ∃ E, u.err = E := ⟨_, rfl⟩
        rw [hE] at HRC HFC
        clear hE HS
        by_cases a2 : j < np
        · have hk3 : ¬ j < 50 := fun h => hjl ⟨a2, h⟩
          clear hjl
          go_upto_region 14 with fail
          clear u0 u1 ul
          have HD := Lib.hid ((Below.refl wc.heap.size wc).drew)
          refine wp_region_quiet_all (Below wc.heap.size wc) (by kernel_rfl) (by kernel_rfl) HD.out ?_
          intro T0 _ WW HWW HWW2
          have x0 : ∀ t, (WW t).cell? _ = _ := fun t => ((HWW t).cell (p := ⟨w.heap.size, 0, none⟩) HX3.out.lt).trans (HX3.out.cell 0 rfl)
          have x1 : ∀ t, (WW t).cell? _ = _ := fun t => ((HWW t).cell (p := ⟨w.heap.size, 1, none⟩) HX3.out.lt).trans (HX3.out.cell 1 rfl)
          have HWH := Lib.hid HWW
          have HW2 := Lib.hid HWW2
          clear HWW HWW2
          have HC0 : Hid (∀ t', Calls Tryz.prog 12 #[.agg #[.slice ok nk ck, .slice op np cp]] (WW t') fun e w' => e = .returned (.int .i64 E) ∧ ∃ t'', w' = WW t'') := Lib.hid (fun t' => calls_class HW2.out ((HFC.out (WW t') (HWH.out t')).mono fun e w' h => ⟨h.1, Below.next (HWH.out t') h.2⟩))
          have HC1 : Hid (∀ t', Calls Tryz.prog 13 #[.agg #[.slice ok nk ck, .slice op np cp]] (WW t') fun e w' => e = .returned (.int .i64 E) ∧ ∃ t'', w' = WW t'') := Lib.hid (fun t' => calls_class HW2.out ((HRC.out (WW t') (HWH.out t')).mono fun e w' h => ⟨h.1, Below.next (HWH.out t') h.2⟩))
          have hEE : (E == E) = true := by simp
          repeat (go_big_quiet_step (first | (go_at_call 12; exact HC0.out _) | (go_at_call 13; exact HC1.out _)))
          refine wpQuiet_nil ?_
          intro t'
          have HBF := Lib.hid (HB4.out.trans ((HWH.out t').mono HB4.out.size))
          clear x0 x1 HC0 HC1 hEE
          go_wp2_with fail
          go_ret
          exact ⟨rfl, HBF.out⟩
        · clear hjl
          go_upto_region 14 with fail
          clear u0 u1 ul
          have HD := Lib.hid ((Below.refl wc.heap.size wc).drew)
          refine wp_region_quiet_all (Below wc.heap.size wc) (by kernel_rfl) (by kernel_rfl) HD.out ?_
          intro T0 _ WW HWW HWW2
          have x0 : ∀ t, (WW t).cell? _ = _ := fun t => ((HWW t).cell (p := ⟨w.heap.size, 0, none⟩) HX3.out.lt).trans (HX3.out.cell 0 rfl)
          have x1 : ∀ t, (WW t).cell? _ = _ := fun t => ((HWW t).cell (p := ⟨w.heap.size, 1, none⟩) HX3.out.lt).trans (HX3.out.cell 1 rfl)
          have HWH := Lib.hid HWW
          have HW2 := Lib.hid HWW2
          clear HWW HWW2
          have HC0 : Hid (∀ t', Calls Tryz.prog 12 #[.agg #[.slice ok nk ck, .slice op np cp]] (WW t') fun e w' => e = .returned (.int .i64 E) ∧ ∃ t'', w' = WW t'') := Lib.hid (fun t' => calls_class HW2.out ((HFC.out (WW t') (HWH.out t')).mono fun e w' h => ⟨h.1, Below.next (HWH.out t') h.2⟩))
          have HC1 : Hid (∀ t', Calls Tryz.prog 13 #[.agg #[.slice ok nk ck, .slice op np cp]] (WW t') fun e w' => e = .returned (.int .i64 E) ∧ ∃ t'', w' = WW t'') := Lib.hid (fun t' => calls_class HW2.out ((HRC.out (WW t') (HWH.out t')).mono fun e w' h => ⟨h.1, Below.next (HWH.out t') h.2⟩))
          have hEE : (E == E) = true := by simp
          repeat (go_big_quiet_step (first | (go_at_call 12; exact HC0.out _) | (go_at_call 13; exact HC1.out _)))
          refine wpQuiet_nil ?_
          intro t'
          have HBF := Lib.hid (HB4.out.trans ((HWH.out t').mono HB4.out.size))
          clear x0 x1 HC0 HC1 hEE
          go_wp2_with fail
          go_ret
          exact ⟨rfl, HBF.out⟩
end Go.Proofs.YtigkhmppnnljiaaGreatDoor

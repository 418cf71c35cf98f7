/-
  few of the laws of chapter 18.
-/
import Derived.Test.YtdlhocghiaghfaaGreatDoorFewA
namespace Go.Proofs.YtdlhocghiaghfaaGreatDoor
open Go.RowKit

set_option maxHeartbeats 8000000 in
set_option maxRecDepth 100000 in
theorem few18_any (u : Unt) (v : Value) (n : Int) (B : Nat) (w : World) (hv : UntR w B u v) (hB : B ≤ w.heap.size) (h0 : 0 ≤ n) (h1 : n ≤ 1000) (r : Bool) (hr : Unt.fewB u n (10 * n) = r) :
    Calls Tryz.prog 17 #[v, .int .i64 n] w fun e w' => e = .returned (.bool r) ∧ Below w.heap.size w w' := by
  obtain ⟨cv, pv, rfl, hc, hp⟩ := hv
  obtain ⟨op, np, cp, rfl, hnp, hcapp, hmaxp⟩ := hp.slice
  have HCS := Lib.hid hc
  obtain ⟨ok, nk, ck, rfl, hnk, hcapk, hmaxk, hcc⟩ := hc
  have HP := Lib.hid hp
  have HNP := Lib.hid hnp
  clear hcc hp hnk
  by_cases c1 : 30 < np
  · obtain rfl : false = r := by rw [← hr, Unt.fewB, ← HNP.out, decide_eq_true (show (30 : Int) < np by omega)]; rfl
    have d1 : decide ((30 : Int) < (np : Int)) = true := decide_eq_true (by omega)
    clear hr hnp
    go_enter Tryz.func17, Tryz.ntmps17
    go_wp2_with fail
    all_goals go_ret
    all_goals exact ⟨rfl, Below.one _ _⟩
  have d1 : decide ((30 : Int) < (np : Int)) = false := decide_eq_false (by omega)
  obtain ⟨q, hq⟩ : ∃ q, decide ((Dat.allL u.consts : Int) ≤ 2000) = q := ⟨_, rfl⟩
  have HR := Lib.hid (show (q && Unt.fewP n (10 * n) u.procs 0) = r from by rw [← hr, Unt.fewB, ← HNP.out, d1, hq]; rfl)
  have HC := Lib.hid (fun X => rfewAll_to u.consts (.slice ok nk ck) 2000 B (w.alloc X) (HCS.out.kept ((Below.one w X).mono hB)) (by simp; omega) (by omega) (by omega) q hq)
  have HB0 := Lib.hid (Below.refl (w.heap.size + 1) (w.alloc (.cells #[.slice ok nk ck, .slice op np cp] 25)))
  clear hr hq hnp
  go_enter Tryz.func17, Tryz.ntmps17
  go_wp2_with fail
  refine (HC.out _).mono ?_
  rintro e w1 ⟨rfl, hb1⟩
  have HB1 := Lib.hid (one_below hb1)
  have bu1 : BoxL w1 w.heap.size 25 [.slice ok nk ck, .slice op np cp] := (BoxL.new rfl _ _).keep hb1
  have u1 := bu1.cell 1 rfl
  have hlt1 := bu1.lt
  clear hb1 HC bu1 HB0
  cases q with
  | false =>
    obtain rfl : r = false := by rw [← HR.out]; rfl
    go_wp2_with fail
    all_goals go_ret
    all_goals exact ⟨rfl, HB1.out⟩
  | true =>
    have HF := Lib.hid (show Unt.fewP n (10 * n) u.procs 0 = r from by rw [← HR.out]; rfl)
    go_wp2_with fail
    go_loopg [5, 6] np (fun g a i wr => ∃ (j : Nat) (k : Int), g = np - j ∧ j ≤ np ∧ a = .int .i64 k ∧ i = .int .i64 j ∧ 0 ≤ k ∧ k ≤ n ∧ Hid (Unt.fewP n (10 * n) u.procs 0 = Unt.fewP n (10 * n) (u.procs.drop j) k) ∧ w1 = wr)
    case atStart => exact ⟨0, 0, rfl, by omega, rfl, rfl, by omega, by omega, rfl, rfl⟩
    case round =>
      obtain ⟨j, k, rfl, hj, rfl, rfl, hk0, hk1, HS, rfl⟩ := hrel
      by_cases hjl : j < np
      · obtain ⟨p, hx⟩ : ∃ p, u.procs[j]? = some p := ⟨_, List.getElem?_eq_getElem (by rw [← HNP.out]; exact hjl)⟩
        obtain ⟨b1, off1, cs, ho1, hbB, hcl, hcell, hpr⟩ := HP.out.at (HB1.out.mono hB) hx
        subst ho1
        have HST := Lib.hid (fewP_step (n := n) (rg := 10 * n) (k := k) hx)
        obtain ⟨args, rest, regs, code, alive⟩ := p
        obtain ⟨sl, al, rfl, hbargs, hbregs, hcode, halive⟩ := hpr
        obtain ⟨oc, m, cc, rfl⟩ := hcode.form
        obtain ⟨hm, hcapc, hmaxc⟩ := hcode.lens
        obtain ⟨oa, la, ca, rfl⟩ := halive.form
        dsimp only at hm hbregs HST hcode
        have e2 := hcell 2 _ rfl
        have e3 := hcell 3 _ rfl
        have HM := Lib.hid (show (code.length : Int) = m from by rw [hm])
        have HMN := Lib.hid hm
        have HCODE := Lib.hid hcode
        rw [HM.out] at HST
        clear hx hcell hcl hcode halive hm hbargs
        by_cases a1 : n < (m : Int)
        · have f1 : decide (n < (m : Int)) = true := decide_eq_true a1
          obtain rfl : r = false := by rw [← HF.out, HS.out, HST.out]; simp [a1]
          go_wp2_with fail
          all_goals go_ret
          all_goals exact ⟨rfl, HB1.out⟩
        have f1 : decide (n < (m : Int)) = false := decide_eq_false a1
        by_cases a2 : 10 * n < regs
        · have f2 : decide (10 * n < regs) = true := decide_eq_true a2
          obtain rfl : r = false := by rw [← HF.out, HS.out, HST.out]; simp [a2]
          go_wp2_with fail
          all_goals go_ret
          all_goals exact ⟨rfl, HB1.out⟩
        have f2 : decide (10 * n < regs) = false := decide_eq_false a2
        have hm1000 : m ≤ 1000 := by omega
        go_wp2_with fail
        go_loopg [7] m (fun g i wr => ∃ q : Nat, g = m - q ∧ q ≤ m ∧ i = .int .i64 q ∧ Hid ((code.take q).all (fun x => decide (x.l.length ≤ 60)) = true) ∧ w1 = wr)
        case atStart => exact ⟨0, rfl, by omega, rfl, rfl, rfl⟩
        case round =>
          obtain ⟨q, rfl, hq, rfl, HA, rfl⟩ := hrel
          by_cases hql : q < m
          · obtain ⟨x, hx⟩ : ∃ x, code[q]? = some x := ⟨_, List.getElem?_eq_getElem (by rw [← HMN.out]; exact hql)⟩
            obtain ⟨b2, off2, ds, ho2, hb2B, hdl, hdcell, hins⟩ := HCODE.out.at (HB1.out.mono hB) hx
            subst ho2
            obtain ⟨sl, rfl, _, _, _, _, hsl⟩ := hins
            obtain ⟨o4, l4, c4, rfl⟩ := hsl.form
            have g4 := hdcell 4 _ rfl
            have HL4 := Lib.hid hsl.lens.1
            have HX := Lib.hid hx
            clear hx hdcell hdl hsl
            by_cases a3 : 60 < l4
            · have f3 : decide ((60 : Int) < (l4 : Int)) = true := decide_eq_true (by omega)
              obtain rfl : r = false := by
                have h3 : code.all (fun x => decide (x.l.length ≤ 60)) = false := by
                  rw [List.all_eq_false]
                  exact ⟨x, List.mem_of_getElem? HX.out, by have := HL4.out; simp; omega⟩
                rw [← HF.out, HS.out, HST.out, h3]; simp
              go_wp2_with fail
              all_goals go_ret
              all_goals exact ⟨rfl, HB1.out⟩
            · have f3 : decide ((60 : Int) < (l4 : Int)) = false := decide_eq_false (by omega)
              have HA2 := Lib.hid (show (code.take (q + 1)).all (fun x => decide (x.l.length ≤ 60)) = true from by
                rw [List.take_add_one, HX.out]
                have := HL4.out
                simp [List.all_append, HA.out]; omega)
              go_wp2_with fail
              go_roundg (m - (q + 1))
              case measure => omega
              case rel => exact ⟨q + 1, rfl, by omega, by go_num, HA2, rfl⟩
          · obtain rfl : q = m := by omega
            have HAL := Lib.hid (show code.all (fun x => decide (x.l.length ≤ 60)) = true from by rw [← HA.out, List.take_of_length_le (by rw [← HMN.out]; exact Nat.le_refl _)])
            by_cases a4 : n < k + q
            · have f4 : decide (n < k + (q : Int)) = true := decide_eq_true a4
              obtain rfl : r = false := by rw [← HF.out, HS.out, HST.out]; simp [a4]
              go_wp2_with fail
              all_goals go_ret
              all_goals exact ⟨rfl, HB1.out⟩
            · have f4 : decide (n < k + (q : Int)) = false := decide_eq_false a4
              have HS2 := Lib.hid (show Unt.fewP n (10 * n) u.procs 0 = Unt.fewP n (10 * n) (u.procs.drop (j + 1)) (k + q) from by rw [HS.out, HST.out, HAL.out, f1, f2, f4]; rfl)
              go_wp2_with fail
              go_roundg (np - (j + 1))
              case measure => omega
              case rel => exact ⟨j + 1, k + q, rfl, by omega, rfl, by go_num, by omega, by omega, HS2, rfl⟩
      · obtain rfl : j = np := by omega
        obtain rfl : r = true := by rw [← HF.out, HS.out, List.drop_eq_nil_of_le (by rw [← HNP.out]; exact Nat.le_refl _)]; rfl
        go_wp2_with fail
        all_goals go_ret
        all_goals exact ⟨rfl, HB1.out⟩
end Go.Proofs.YtdlhocghiaghfaaGreatDoor

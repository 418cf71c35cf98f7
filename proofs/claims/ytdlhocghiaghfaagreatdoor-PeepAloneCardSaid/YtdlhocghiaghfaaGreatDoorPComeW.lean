/-
  The walk of PeepCome.
-/
import Derived.Test.YtdlhocghiaghfaaGreatDoorPeeps
import Derived.Test.YtdlhocghiaghfaaGreatDoorFew18
import Derived.BigQuiet
namespace Go.Proofs.YtdlhocghiaghfaaGreatDoor
open Go Go.RowKit

namespace Peep
theorem cleanC_all {code : List Ins} (h : Closed code) : Closed (cleanC code) ∧ ∀ i, i < (cleanC code).length → Reach (cleanC code) i := cleaned_all (turned_closed h) (metOf_iff code)
theorem cleanC_mov {code : List Ins} {i : Nat} {y : Ins} (hy : (cleanC code)[i]? = some y) : ¬ (y.op = 1 ∧ y.a = y.d) := cleaned_mov hy
theorem cleanC_len (code : List Ins) : (cleanC code).length ≤ code.length := by
  refine Nat.le_trans (without_le _ _) (Nat.le_trans (without_le _ _) ?_)
  simp [turned]
theorem cleanC_inside {code : List Ins} (h : Closed code) : Inside (cleanC code) := inside_of (cleanC_all h).1 without_nat
end Peep
/-- What the law's search keeps. -/
def CoI (Wo : World) (mb m : Nat) (met : Nat → Bool) (todo : List Int) (v : Value) (wr : World) : Prop :=
  Below Wo.heap.size Wo wr ∧ wr.rowIs mb 4 m (fun i => .bool (met i)) ∧ (∃ o l c, v = .slice o l c) ∧ wr.ownsRow Wo.heap.size 3 1 v todo.length (todo.map (Value.int .i64)) ∧ Wo.heap.size ≤ mb
theorem coI_app {Wo W w3 : World} {mb m : Nat} {met : Nat → Bool} {todo : List Int} {v v' : Value} {y : Int} (h : CoI Wo mb m met todo v W) (hown : w3.ownsRow Wo.heap.size 3 1 v' (todo.length + 1) (todo.map (Value.int .i64) ++ [.int .i64 y])) (hgrow : (W.alloc (.cells #[.int .i64 y] 3)).grownBy w3 v.ownBlock) :
    CoI Wo mb m met (todo ++ [y]) v' w3 ∧ ∀ b t cs, t ≠ 3 → BoxL W b t cs → BoxL w3 b t cs := by
  obtain ⟨h1, h2, h3, h4, h5⟩ := h
  have hz := h1.size
  have keep : ∀ b (c : Array Value) t, W.heap[b]? = some (Obj.cells c t (0, 0)) → t ≠ 3 → w3.heap[b]? = W.heap[b]? := fun b c t hb ht => by
    have hlt := (Array.getElem?_eq_some_iff.1 hb).1
    refine (hgrow.block b (by rw [World.size_alloc]; omega) (fun e => ?_)).trans (Below.heap_alloc W _ b hlt)
    obtain ⟨cs, f, hc⟩ := own_row h4 b e.symm
    rw [hb] at hc
    cases hc
    exact ht rfl
  refine ⟨⟨(h1.alloc hz _).grown hgrow (by rw [World.size_alloc]; omega) (fun k e => (h4.lt k e).1), ?_, ?_, ?_, h5⟩, fun b t cs ht hb => (keep b _ t hb ht).trans hb⟩
  · have h2' := h2
    obtain ⟨c, hc, _⟩ := h2
    exact h2'.of_block (keep mb c _ hc (by decide))
  · rcases hown.2 with ⟨h, _⟩ | ⟨g, cap, cur, h, _⟩
    · exact ⟨_, _, _, h⟩
    · exact ⟨_, _, _, h⟩
  · simpa using hown
theorem CoI.alloc {Wo W : World} {mb m : Nat} {met : Nat → Bool} {todo : List Int} {v : Value} (h : CoI Wo mb m met todo v W) (o : Obj) : CoI Wo mb m met todo v (W.alloc o) := by
  obtain ⟨h1, h2, h3, h4, h5⟩ := h
  exact ⟨h1.alloc h1.size _, h2.alloc _, h3, h4.alloc _, h5⟩
theorem allL_len : ∀ l : List Dat, l.length ≤ Dat.allL l
  | [] => by simp
  | .mk k n d s l' :: l => by
    have := allL_len l
    rw [Dat.allL, Dat.all, List.length_cons]
    omega
theorem few_consts {u : Unt} {n rg : Int} (h : Unt.fewB u n rg = true) : u.consts.length ≤ 2000 := by
  simp only [Unt.fewB, Bool.and_eq_true, decide_eq_true_eq] at h
  have := allL_len u.consts
  omega
set_option maxHeartbeats 16000000 in
set_option maxRecDepth 100000 in
theorem peepCome_walk (u : Unt) (v : Value) (w : World) (hv : UntR w w.heap.size u v) :
    Calls Tryz.prog 4 #[v] w fun e w' => e = .returned (.bool true) ∧ Below w.heap.size w w' := by
  obtain ⟨B, hBe⟩ : ∃ B, w.heap.size = B := ⟨_, rfl⟩
  rw [hBe] at hv
  have hB : B ≤ w.heap.size := by omega
  have HBE := Lib.hid hBe
  clear hBe
  have HV := Lib.hid hv
  obtain ⟨cv, pv, rfl, hc, hp⟩ := hv
  obtain ⟨op', np, cp', rfl, hnp, hcapp, hmaxp⟩ := hp.slice
  obtain ⟨ok, nk, ck, rfl, hcx⟩ := hc
  have HNP := Lib.hid hnp
  clear hcx hp hnp
  have HAW := Lib.hid (fun X => awake18_any (w.alloc X))
  have BU0 := Lib.hid (BoxL.new (W := w) rfl 25 [.slice ok nk ck, .slice op' np cp'])
  go_enter Tryz.func4, Tryz.ntmps4
  go_wp2_with fail
  refine (HAW.out _).mono ?_
  rintro e w0 ⟨rfl, hb0⟩
  have HB0 := Lib.hid (one_below hb0)
  have BU1 := Lib.hid (BU0.out.keep hb0)
  have U0 := BU1.out.cell 0 rfl
  have U1 := BU1.out.cell 1 rfl
  have hul := BU1.out.lt
  have hs0 := HB0.out.size
  obtain ⟨q, hq⟩ : ∃ q, Unt.fewB u 300 (10 * 300) = q := ⟨_, rfl⟩
  have HFE := Lib.hid (few18_any u _ 300 B w0 (HV.out.kept (HB0.out.mono hB)) (by omega) (by omega) (by omega) q hq)
  have HQF := Lib.hid hq
  clear hb0 hq HAW BU0
  go_wp2_with fail
  refine HFE.out.mono ?_
  rintro e w1 ⟨rfl, hb1⟩
  have HB1 := Lib.hid (Below.next HB0.out hb1)
  have BU2 := Lib.hid (BU1.out.keep hb1)
  clear hb1 HFE U0 U1 hul hs0
  cases q with
  | false =>
    go_wp2_with fail
    go_ret
    exact ⟨rfl, HB1.out⟩
  | true =>
    have U0 := BU2.out.cell 0 rfl
    have U1 := BU2.out.cell 1 rfl
    have hul := BU2.out.lt
    have HSH := Lib.hid (Live.short_of_few HQF.out (by decide))
    have hs1 := HB1.out.size
    have HCL := Lib.hid (cleanU_any u _ B w1 (HV.out.kept (HB1.out.mono hB)) (by omega) HSH.out (by have := few_consts HQF.out; omega))
    cases hok : Peep.clOk u with
    | false =>
      rw [show Peep.clErr u = 5 from by rw [Peep.clErr, hok]; rfl] at HCL
      clear hok
      go_wp2_with fail
      refine HCL.out.mono ?_
      rintro e w2 ⟨cv, pv, rfl, hu, hb2⟩
      obtain ⟨cv', pv', he, hcv, hpv⟩ := hu
      simp only [Value.agg.injEq, Array.mk.injEq, List.cons.injEq, and_true] at he
      obtain ⟨rfl, rfl⟩ := he
      obtain ⟨o0, l0, c0, rfl, hcx⟩ := hcv
      clear hcx
      obtain ⟨o1, l1, c1, rfl⟩ := hpv.form
      have HB2 := Lib.hid (Below.next (Below.next HB1.out hb2) (Below.one w2 (.cells #[.slice o0 l0 c0, .slice o1 l1 c1] 25)))
      clear hpv hb2 HCL
      go_wp2_with fail
      go_ret
      exact ⟨rfl, HB2.out⟩
    | true =>
      rw [show Peep.clErr u = 0 from by rw [Peep.clErr, hok]; rfl, show Peep.cleanU u = ⟨u.consts, u.procs.map Peep.cleanP⟩ from by rw [Peep.cleanU, hok]; rfl] at HCL
      have hokB : u.okB = true := by
        simp only [Peep.clOk, Bool.and_eq_true] at hok
        exact hok.1
      have HOK := Lib.hid hokB
      clear hok hokB
      go_wp2_with fail
      refine HCL.out.mono ?_
      rintro e w2 ⟨cv, pv, rfl, hu, hb2⟩
      obtain ⟨cv', pv', he, hcv, hpv⟩ := hu
      simp only [Value.agg.injEq, Array.mk.injEq, List.cons.injEq, and_true] at he
      obtain ⟨rfl, rfl⟩ := he
      obtain ⟨o0, l0, c0, rfl, hcx⟩ := hcv
      clear hcx
      obtain ⟨o1, l1, c1, rfl⟩ := hpv.form
      have HPV := Lib.hid hpv
      have HPL := Lib.hid (show l1 = u.procs.length from by rw [hpv.lens.1, List.length_map])
      have hpcap := hpv.lens.2
      have HB2 := Lib.hid (Below.next HB1.out hb2)
      have BX := Lib.hid (BoxL.new (W := w2) rfl 25 [.slice o0 l0 c0, .slice o1 l1 c1])
      clear hpv hb2 HCL U0 U1 hul
      go_upto_region 5 with fail
      obtain ⟨W0, hW0⟩ : ∃ W0, w2.alloc (.cells #[.slice o0 l0 c0, .slice o1 l1 c1] 25) = W0 := ⟨_, rfl⟩
      have HBX := Lib.hid (show BoxL W0 w2.heap.size 25 [.slice o0 l0 c0, .slice o1 l1 c1] from by rw [← hW0]; exact BX.out)
      have HW20 := Lib.hid (show Below w2.heap.size w2 W0 from by rw [← hW0]; exact Below.one w2 _)
      rw [hW0]
      clear hW0 BX
      have HWR0 := Lib.hid (Below.refl W0.heap.size W0)
      go_wp2_with fail
      go_loopg [6] l1 (fun G i wr => ∃ j : Nat, G = l1 - j ∧ j ≤ l1 ∧ i = .int .i64 j ∧ Hid (Below W0.heap.size W0 wr))
      case atStart => exact ⟨0, rfl, by omega, rfl, HWR0⟩
      case round =>
        obtain ⟨j, rfl, hj, rfl, HW⟩ := hrel
        clear HWR0
        obtain ⟨wo, rfl⟩ : ∃ wo : World, wo = wr := ⟨_, rfl⟩
        have x1 := (HBX.out.keep HW.out).cell 1 rfl
        have hxl := (HBX.out.keep HW.out).lt
        have HW2O := Lib.hid (Below.next HW20.out HW.out)
        by_cases hjl : j < l1
        · obtain ⟨p, hpj⟩ : ∃ p, u.procs[j]? = some p := ⟨_, List.getElem?_eq_getElem (by rw [← HPL.out]; exact hjl)⟩
          have hmem := List.mem_of_getElem? hpj
          have HRD := Lib.hid (Peep.proc_ready HOK.out hmem)
          have hsp := (HSH.out p hmem).1
          obtain ⟨b1, off1, cs, ho1, hb1B, hcl, hcell, sl0, al0, rfl, _, _, hsl, hal⟩ := HPV.out.at HW2O.out (show (u.procs.map Peep.cleanP)[j]? = some (Peep.cleanP p) from by simp [hpj])
          subst ho1
          obtain ⟨oc, m, cc, rfl⟩ := hsl.form
          have e3 := hcell 3 _ rfl
          have hel := cell_lt e3
          obtain ⟨code, hcode⟩ : ∃ code, Peep.cleanC p.code = code := ⟨_, rfl⟩
          have hsl : SlC w2 w2.heap.size 5 (InsR w2 w2.heap.size) code (.slice oc m cc) := by rw [← hcode]; exact hsl
          have HML := Lib.hid hsl.lens.1
          have hm1 : m ≤ 1000 := by rw [hsl.lens.1, ← hcode]; exact Nat.le_trans (Peep.cleanC_len _) hsp
          have HALL := Lib.hid (show Peep.Closed code ∧ ∀ i, i < code.length → Peep.Reach code i from by rw [← hcode]; exact Peep.cleanC_all HRD.out.1)
          have HINS := Lib.hid (show Inside code from by rw [← hcode]; exact Peep.cleanC_inside HRD.out.1)
          have HMOV := Lib.hid (show ∀ (i : Nat) (y : Ins), code[i]? = some y → ¬ (y.op = 1 ∧ y.a = y.d) from fun i y hy => by rw [← hcode] at hy; exact Peep.cleanC_mov hy)
          have HCO := Lib.hid (show SlC wo w2.heap.size 5 (InsR wo w2.heap.size) code (.slice oc m cc) from codeR_kept hsl HW2O.out)
          have h2o : w2.heap.size ≤ wo.heap.size := HW2O.out.size
          have hmk := run_make_row' (P := Tryz.prog) 41 4 (.bool false) 1 Tryz.underlying41 info_bool rfl .i64 .i64 m (by omega) (by omega)
          have HD0 := Lib.hid (Dfs.start HALL.out.1)
          have hum := unm_le (fun _ => false) m
          have HI0 := Lib.hid (show CoI wo wo.heap.size m (fun _ => false) [0] (.slice (some ⟨wo.heap.size + 1, 0, none⟩) 1 1) ((wo.alloc (.cells (madeCells #[.bool false] m) 4)).alloc (.cells #[.int .i64 0] 3)) from
            ⟨(Below.one wo _).trans ((Below.one _ _).mono (by simp)), (World.rowIs_made wo (.bool false) m 4).alloc _, ⟨_, _, _, rfl⟩, ownsRow_new (W := wo.alloc (.cells (madeCells #[.bool false] m) 4)) (b := wo.heap.size + 1) (base := wo.heap.size) (by simp) (by omega) 3 1 1 [.int .i64 0] rfl (by unfold maxLen; omega), Nat.le_refl _⟩)
          clear hpj hcell hcl hsl hal hcode hmem
          go_wp2_with fail
          go_loopg [9] (1 + 2 * unm (fun _ => false) m) (fun G v wr => ∃ (met : Nat → Bool) (todo : List Int), G = todo.length + 2 * unm met m ∧ G ≤ 1 + 2 * m ∧ Hid (Dfs code met todo) ∧ Hid (CoI wo wo.heap.size m met todo v wr))
          case atStart => exact ⟨fun _ => false, [0], rfl, by omega, HD0, HI0⟩
          case round =>
            obtain ⟨met, todo, hG, hGl, HD, HI⟩ := hrel
            have HG := Lib.hid hG
            clear hG HD0 HI0 hum hmk x1 hxl e3 hel
            obtain ⟨hb, hr, ⟨ov, lv, cv2, rfl⟩, hown, _⟩ := HI.out
            rcases List.eq_nil_or_concat todo with rfl | ⟨ts, t, htt⟩
            · obtain rfl : lv = 0 := by
                rcases hown.2 with ⟨h, _⟩ | ⟨g, cap', cur, h, _⟩
                · simp only [Value.slice.injEq] at h; exact h.2.1
                · simp only [Value.slice.injEq] at h; exact h.2.1
              have HDD := Lib.hid (show ∀ k, k < m → met k = true from fun k hk => (HD.out.done k).2 (HALL.out.2 k (by rw [← HML.out]; exact hk)))
              have HR := Lib.hid hr
              have HBW := Lib.hid hb
              clear hr hb hown
              obtain ⟨w5, rfl⟩ : ∃ w5 : World, w5 = wr := ⟨_, rfl⟩
              have HZ := Lib.hid (Below.refl w5.heap.size w5)
              go_wp2_with fail
              go_loopg [12] m (fun G i wq => ∃ k : Nat, G = m - k ∧ k ≤ m ∧ i = .int .i64 k ∧ Hid (Below w5.heap.size w5 wq))
              case atStart => exact ⟨0, rfl, by omega, rfl, HZ⟩
              case round =>
                obtain ⟨k, rfl, hk, rfl, HQ⟩ := hrel
                clear HZ
                by_cases hkm : k < m
                · obtain ⟨x, hx⟩ : ∃ x, code[k]? = some x := ⟨_, List.getElem?_eq_getElem (by rw [← HML.out]; exact hkm)⟩
                  have hbq : Below w2.heap.size wo wr := (HBW.out.mono h2o).trans (HQ.out.mono (by have := HBW.out.size; omega))
                  obtain ⟨b6, off6, cs6, ho6, hb6B, hcl6, hcell6, hins⟩ := HCO.out.at hbq hx
                  subst ho6
                  match cs6, hcl6 with
                  | [t0, t1, t2, t3, t4], _ =>
                    have g0 := hcell6 0 _ rfl
                    have g1 := hcell6 1 _ rfl
                    have g2 := hcell6 2 _ rfl
                    rw [Nat.add_zero] at g0
                    have hmv := HMOV.out k x hx
                    obtain ⟨op, d, a, b, l⟩ := x
                    obtain ⟨sl, he, _, _, _, _, hsl⟩ := hins
                    simp only [List.cons.injEq, and_true] at he
                    obtain ⟨rfl, rfl, rfl, rfl, rfl⟩ := he
                    dsimp only at hmv
                    have hmt := (HR.out.cell hkm)
                    simp only [HDD.out k hkm] at hmt
                    have m0 := keepC HQ.out hmt
                    have hml := cell_lt m0
                    have hgl := cell_lt g0
                    have HQ2 := Lib.hid HQ.out.drew
                    clear hcell6 hcl6 hsl hx hmt
                    by_cases h1 : op = 1
                    · subst h1
                      have f2 : (a == d) = false := by simpa using fun h => hmv ⟨rfl, h⟩
                      clear hmv
                      go_upto_region 30 with fail
                      go_quiet (fail)
                      all_goals (go_wp2_with fail; go_roundg (m - (k + 1)); (case measure => omega); (case rel => exact ⟨k + 1, rfl, by omega, by go_num, Lib.hid (Below.drewN HQ.out _)⟩))
                    · have f1 : (op == 1) = false := by simpa using h1
                      clear hmv
                      go_upto_region 30 with fail
                      go_quiet (fail)
                      all_goals (go_wp2_with fail; go_roundg (m - (k + 1)); (case measure => omega); (case rel => exact ⟨k + 1, rfl, by omega, by go_num, Lib.hid (Below.drewN HQ.out _)⟩))
                · obtain rfl : k = m := by omega
                  have HWE := Lib.hid (show Below W0.heap.size W0 wr from Below.next HW.out (HBW.out.trans (HQ.out.mono HBW.out.size)))
                  go_wp2_with fail
                  go_roundg (l1 - (j + 1))
                  case measure => omega
                  case rel => exact ⟨j + 1, rfl, by omega, by go_num, HWE⟩
            · skip
              rw [List.concat_eq_append] at htt
              subst htt
              obtain ⟨mm, hmm⟩ : ∃ mm, ts.length = mm := ⟨_, rfl⟩
              obtain ⟨tn, rfl, htn, _⟩ := HD.out.todo_in t (by simp)
              rw [← HML.out] at htn
              have hown' : wr.ownsRow wo.heap.size 3 1 (.slice ov lv cv2) (mm + 1) ((ts ++ [(tn : Int)]).map (Value.int .i64)) := by
                have := hown
                rwa [List.length_append, hmm] at this
              obtain ⟨g, cap1, L, hv1, hg, hbxg, htk, hn1, hc1, hL1⟩ := RowB.of_own hown' (by omega)
              simp only [Value.slice.injEq] at hv1
              obtain ⟨rfl, rfl, rfl⟩ := hv1
              have ct : wr.cell? ⟨g, mm, none⟩ = some (.int .i64 tn) := by
                refine hbxg.cell mm ?_
                have h : (L.take ((mm + 1) * 1))[mm]? = some (.int .i64 tn) := by
                  rw [htk, List.map_append, List.getElem?_append_right (by simp [hmm])]
                  simp [hmm]
                rw [List.getElem?_take] at h
                split at h
                · exact h
                · cases h
              have hrow : wr.ownsRow wo.heap.size 3 1 (.slice (some ⟨g, 0, none⟩) mm cv2) mm (ts.map (Value.int .i64)) := (show RowB wo.heap.size 3 1 mm (ts.map (Value.int .i64)) (.slice (some ⟨g, 0, none⟩) mm cv2) wr from ⟨g, cv2, L, rfl, hg, hbxg, by
                have h : (L.take ((mm + 1) * 1)).take (mm * 1) = ((ts ++ [(tn : Int)]).map (Value.int .i64)).take mm := by rw [htk, Nat.mul_one]
                rw [List.take_take, Nat.min_eq_left (by omega)] at h
                rw [h, List.map_append, List.take_append_of_le_length (by simp [hmm]), List.take_of_length_le (by simp [hmm])], by omega, hc1, hL1⟩).own
              have hmm2 : mm ≤ 3000 := by
                have h := HG.out
                rw [List.length_append, hmm] at h
                omega
              have HM0 := Lib.hid hmm
              have HCI5 := Lib.hid (show CoI wo wo.heap.size m met ts (.slice (some ⟨g, 0, none⟩) mm cv2) wr from ⟨hb, hr, ⟨_, _, _, rfl⟩, by rw [hmm]; exact hrow, Nat.le_refl _⟩)
              have cr := hr.cell (i := tn) htn
              have zr := hr.frozen tn
              have hlr := hr.lt
              have hgl := hbxg.lt
              have HGM := Lib.hid (show gk = mm + 1 + 2 * unm met m from by have h := HG.out; rw [List.length_append, hmm] at h; exact h)
              obtain ⟨x, hx⟩ : ∃ x, code[tn]? = some x := ⟨_, List.getElem?_eq_getElem (by rw [← HML.out]; exact htn)⟩
              obtain ⟨b6, off6, cs6, ho6, hb6B, hcl6, hcell6, hins⟩ := HCO.out.at (hb.mono h2o) hx
              subst ho6
              have HX := Lib.hid hx
              have HXI := Lib.hid (HINS.out x (List.mem_of_getElem? hx))
              obtain ⟨q, hq⟩ : ∃ q, met tn = q := ⟨_, rfl⟩
              rw [hq] at cr
              have HQ := Lib.hid hq
              have HBW := Lib.hid hb
              have HR := Lib.hid hr
              have hbo := hb.size
              match cs6, hcl6 with
              | [t0, t1, t2, t3, t4], _ =>
                have g0 := hcell6 0 _ rfl
                have g1 := hcell6 1 _ rfl
                have g2 := hcell6 2 _ rfl
                have g3 := hcell6 3 _ rfl
                have g4 := hcell6 4 _ rfl
                rw [Nat.add_zero] at g0
                obtain ⟨op, d, a, b, l⟩ := x
                obtain ⟨sl, he, _, _, _, _, hsl⟩ := hins
                obtain ⟨o4, l4, c4, rfl⟩ := hsl.form
                simp only [List.cons.injEq, and_true] at he
                obtain ⟨rfl, rfl, rfl, rfl, rfl⟩ := he
                have hl6 := cell_lt g0
                have fr0 : decide ((tn : Int) < 0) = false := decide_eq_false (by omega)
                have frm : decide (m ≤ tn) = false := decide_eq_false (by omega)
                clear hcell6 hcl6 hsl hx hown hown' htk hL1 hb hr hbxg hq hmm hrow
                cases q with
                | true =>
                  have HDP := Lib.hid (HD.out.pop HQ.out)
                  go_wp2_with fail
                  go_roundg (mm + 2 * unm met m)
                  case measure => have h := HGM.out; omega
                  case rel => exact ⟨met, ts, by rw [HM0.out], by have h := HGM.out; omega, HDP, HCI5⟩
                | false =>
                  have HDG := Lib.hid (HD.out.go HALL.out.1 HX.out)
                  have HUN := Lib.hid (unm_set HQ.out (n := m))
                  have HSE := Lib.hid (succsI_eq (x := ⟨op, d, a, b, l⟩) (k := tn) (fun h => (HXI.out.1 h).1) (fun h => (HXI.out.2 h).1))
                  have HCI7 := Lib.hid (show CoI wo wo.heap.size m (setB met tn) ts (.slice (some ⟨g, 0, none⟩) mm cv2) (wr.setCell ⟨wo.heap.size, tn, none⟩ (.bool true)) from by
                    obtain ⟨q1, q2, q3, q4, q5⟩ := HCI5.out
                    refine ⟨q1.setCell (p := ⟨wo.heap.size, tn, none⟩) (Nat.le_refl _) _, (q2.set tn (.bool true)).congr (fun i _ => by unfold setB; split <;> rfl), q3, ?_, q5⟩
                    exact ownsRow_set q4 _ _ (fun r hr e => by
                      obtain ⟨cs, f, hc⟩ := own_row q4 r hr
                      obtain ⟨c, hc', _⟩ := q2
                      have e : r = wo.heap.size := e
                      rw [e, hc'] at hc
                      simp at hc))
                  have BX := Lib.hid (BoxL.new (W := wr.setCell ⟨wo.heap.size, tn, none⟩ (.bool true)) (b := wr.heap.size) (by simp) 34 [.int .i64 op, .int .i64 d, .int .i64 a, .int .i64 b, .slice o4 l4 c4])
                  go_upto_region 21 with fail
                  obtain ⟨W8, hW8⟩ : ∃ W8, (wr.setCell ⟨wo.heap.size, tn, none⟩ (.bool true)).alloc (.cells #[.int .i64 op, .int .i64 d, .int .i64 a, .int .i64 b, .slice o4 l4 c4] 34) = W8 := ⟨_, rfl⟩
                  have HX8 := Lib.hid (show BoxL W8 wr.heap.size 34 [.int .i64 op, .int .i64 d, .int .i64 a, .int .i64 b, .slice o4 l4 c4] from by rw [← hW8]; exact BX.out)
                  have HCI8 := Lib.hid (show CoI wo wo.heap.size m (setB met tn) ts (.slice (some ⟨g, 0, none⟩) mm cv2) W8 from by rw [← hW8]; exact HCI7.out.alloc _)
                  have HO8 := Lib.hid (show W8.ownsRow wo.heap.size 3 1 (.slice (some ⟨g, 0, none⟩) mm cv2) mm (ts.map (Value.int .i64)) from by have h := HCI8.out.2.2.2.1; rwa [HM0.out] at h)
                  have hs8 : wo.heap.size ≤ W8.heap.size := HCI8.out.1.size
                  rw [hW8]
                  clear hW8 BX HCI7 cr zr ct g0 g1 g2 g3 g4 hl6 fr0 frm hgl hlr
                  have x0 := HX8.out.cell 0 rfl
                  have x1 := HX8.out.cell 1 rfl
                  have x2 := HX8.out.cell 2 rfl
                  have x3 := HX8.out.cell 3 rfl
                  have x4 := HX8.out.cell 4 rfl
                  have hxl := HX8.out.lt
                  obtain ⟨i0, hi0, hz0', hz1, hz2⟩ := info_parts info_int
                  by_cases h15 : op = 15
                  · subst h15
                    have HSL := Lib.hid (show ts ++ (Peep.succs ⟨15, d, a, b, l⟩ tn).map (fun j : Nat => (j : Int)) = ts ++ [a] from by rw [← HSE.out]; rfl)
                    go_wp2_with (at_builtin; refine wpList_append_own _ rfl (.tmp 92) (.tmp 95) 32 rfl wo.heap.size 3 i0 (.int .i64 0) 1 8 Tryz.underlying32 hi0 hz0' hz1 hz2 rfl (by decide) (.slice (some ⟨g, 0, none⟩) mm cv2) mm (ts.map (Value.int .i64)) rfl (HO8.out.alloc _) ⟨W8.heap.size, 0, none⟩ 1 1 [.int .i64 a] rfl rfl (new_cells W8 _ _) (by intro u hu; simp only [List.mem_cons, List.not_mem_nil, or_false] at hu; subst hu; rfl) (by unfold maxLen; omega) (by omega) (by simp; omega) ?_)
                    intro v1 w3 hown1 hgrow1 _
                    obtain ⟨g3, cap3, rfl⟩ := ownsRow_succ hown1
                    obtain ⟨hci1, hkp1⟩ := coI_app (y := a) HCI8.out (by rw [HM0.out]; exact hown1) hgrow1
                    have HCJ1 := Lib.hid hci1
                    have HXJ1 := Lib.hid (hkp1 _ _ _ (by decide) HX8.out)
                    have HOJ1 := Lib.hid hown1
                    have hsJ1 : wo.heap.size ≤ w3.heap.size := hci1.1.size
                    clear hci1 hkp1 hown1 hgrow1 x0 x1 x2 x3 x4 hxl
                    have x0 := HXJ1.out.cell 0 rfl
                    have x1 := HXJ1.out.cell 1 rfl
                    have x2 := HXJ1.out.cell 2 rfl
                    have x3 := HXJ1.out.cell 3 rfl
                    have x4 := HXJ1.out.cell 4 rfl
                    have hxl := HXJ1.out.lt
                    go_wp2_with fail
                    go_roundg ((ts ++ [a]).length + 2 * unm (setB met tn) m)
                    case measure =>
                      have h := HGM.out; have h1 := HUN.out; rw [if_pos htn] at h1
                      simp only [List.length_append, HM0.out, List.length_cons, List.length_nil]
                      omega
                    case rel =>
                      refine ⟨setB met tn, ts ++ [a], rfl, ?_, by rw [HSL.out] at HDG; exact HDG, HCJ1⟩
                      have h := HGM.out; have h1 := HUN.out; rw [if_pos htn] at h1
                      simp only [List.length_append, HM0.out, List.length_cons, List.length_nil]
                      omega
                  · have f15 : (op == 15) = false := by simpa using h15
                    have f15n : (op != 15) = true := by simpa using h15
                    by_cases h19 : op < 19
                    · have f19 : decide (op < 19) = true := decide_eq_true h19
                      go_wp2_with (at_builtin; refine wpList_append_own _ rfl (.tmp 84) (.tmp 87) 32 rfl wo.heap.size 3 i0 (.int .i64 0) 1 8 Tryz.underlying32 hi0 hz0' hz1 hz2 rfl (by decide) (.slice (some ⟨g, 0, none⟩) mm cv2) mm (ts.map (Value.int .i64)) rfl (HO8.out.alloc _) ⟨W8.heap.size, 0, none⟩ 1 1 [.int .i64 (tn + 1)] rfl rfl (new_cells W8 _ _) (by intro u hu; simp only [List.mem_cons, List.not_mem_nil, or_false] at hu; subst hu; rfl) (by unfold maxLen; omega) (by omega) (by simp; omega) ?_)
                      intro v1 w3 hown1 hgrow1 _
                      obtain ⟨g3, cap3, rfl⟩ := ownsRow_succ hown1
                      obtain ⟨hci1, hkp1⟩ := coI_app (y := (tn + 1)) HCI8.out (by rw [HM0.out]; exact hown1) hgrow1
                      have HCJ1 := Lib.hid hci1
                      have HXJ1 := Lib.hid (hkp1 _ _ _ (by decide) HX8.out)
                      have HOJ1 := Lib.hid hown1
                      have hsJ1 : wo.heap.size ≤ w3.heap.size := hci1.1.size
                      clear hci1 hkp1 hown1 hgrow1 x0 x1 x2 x3 x4 hxl
                      have x0 := HXJ1.out.cell 0 rfl
                      have x1 := HXJ1.out.cell 1 rfl
                      have x2 := HXJ1.out.cell 2 rfl
                      have x3 := HXJ1.out.cell 3 rfl
                      have x4 := HXJ1.out.cell 4 rfl
                      have hxl := HXJ1.out.lt
                      by_cases h16 : op = 16
                      · subst h16
                        have HSL := Lib.hid (show ts ++ (Peep.succs ⟨16, d, a, b, l⟩ tn).map (fun j : Nat => (j : Int)) = ts ++ [(tn : Int) + 1] ++ [b] from by rw [← HSE.out, List.append_assoc]; rfl)
                        have HM1 := Lib.hid (show (ts ++ [(tn : Int) + 1]).length = mm + 1 from by rw [List.length_append, HM0.out]; rfl)
                        go_wp2_with (at_builtin; refine wpList_append_own _ rfl (.tmp 100) (.tmp 103) 32 rfl wo.heap.size 3 i0 (.int .i64 0) 1 8 Tryz.underlying32 hi0 hz0' hz1 hz2 rfl (by decide) (.slice (some ⟨g3, 0, none⟩) (mm + 1) cap3) (mm + 1) (ts.map (Value.int .i64) ++ [.int .i64 (tn + 1)]) rfl (HOJ1.out.alloc _) ⟨w3.heap.size, 0, none⟩ 1 1 [.int .i64 b] rfl rfl (new_cells w3 _ _) (by intro u hu; simp only [List.mem_cons, List.not_mem_nil, or_false] at hu; subst hu; rfl) (by unfold maxLen; omega) (by omega) (by simp; omega) ?_)
                        intro v2 w4 hown2 hgrow2 _
                        obtain ⟨g4, cap4, rfl⟩ := ownsRow_succ hown2
                        obtain ⟨hci2, hkp2⟩ := coI_app (y := b) HCJ1.out (v' := .slice (some ⟨g4, 0, none⟩) (mm + 1 + 1) cap4) (by rw [HM1.out, List.map_append, List.append_assoc]; exact hown2) hgrow2
                        have HCJ2 := Lib.hid hci2
                        have HXJ2 := Lib.hid (hkp2 _ _ _ (by decide) HXJ1.out)
                        have HOJ2 := Lib.hid hown2
                        have hsJ2 : wo.heap.size ≤ w4.heap.size := hci2.1.size
                        clear hci2 hkp2 hown2 hgrow2 x0 x1 x2 x3 x4 hxl
                        have x0 := HXJ2.out.cell 0 rfl
                        have x1 := HXJ2.out.cell 1 rfl
                        have x2 := HXJ2.out.cell 2 rfl
                        have x3 := HXJ2.out.cell 3 rfl
                        have x4 := HXJ2.out.cell 4 rfl
                        have hxl := HXJ2.out.lt
                        go_wp2_with fail
                        go_roundg ((ts ++ [(tn : Int) + 1] ++ [b]).length + 2 * unm (setB met tn) m)
                        case measure =>
                          have h := HGM.out; have h1 := HUN.out; rw [if_pos htn] at h1
                          simp only [List.length_append, HM0.out, List.length_cons, List.length_nil]
                          omega
                        case rel =>
                          refine ⟨setB met tn, ts ++ [(tn : Int) + 1] ++ [b], rfl, ?_, by rw [HSL.out] at HDG; exact HDG, HCJ2⟩
                          have h := HGM.out; have h1 := HUN.out; rw [if_pos htn] at h1
                          simp only [List.length_append, HM0.out, List.length_cons, List.length_nil]
                          omega
                      · have f16 : (op == 16) = false := by simpa using h16
                        have HSL := Lib.hid (show ts ++ (Peep.succs ⟨op, d, a, b, l⟩ tn).map (fun j : Nat => (j : Int)) = ts ++ [(tn : Int) + 1] from by rw [← HSE.out]; simp [succsI, h15, h19, h16])
                        go_wp2_with fail
                        go_roundg ((ts ++ [(tn : Int) + 1]).length + 2 * unm (setB met tn) m)
                        case measure =>
                          have h := HGM.out; have h1 := HUN.out; rw [if_pos htn] at h1
                          simp only [List.length_append, HM0.out, List.length_cons, List.length_nil]
                          omega
                        case rel =>
                          refine ⟨setB met tn, ts ++ [(tn : Int) + 1], rfl, ?_, by rw [HSL.out] at HDG; exact HDG, HCJ1⟩
                          have h := HGM.out; have h1 := HUN.out; rw [if_pos htn] at h1
                          simp only [List.length_append, HM0.out, List.length_cons, List.length_nil]
                          omega
                    · have f19 : decide (op < 19) = false := decide_eq_false h19
                      have f16 : (op == 16) = false := by simp; omega
                      have HSL := Lib.hid (show ts ++ (Peep.succs ⟨op, d, a, b, l⟩ tn).map (fun j : Nat => (j : Int)) = ts from by rw [← HSE.out]; simp only [succsI]; rw [if_neg (by omega), if_neg h15, if_neg (by omega)]; simp)
                      go_wp2_with fail
                      go_roundg ((ts).length + 2 * unm (setB met tn) m)
                      case measure =>
                        have h := HGM.out; have h1 := HUN.out; rw [if_pos htn] at h1
                        simp only [HM0.out]
                        omega
                      case rel =>
                        refine ⟨setB met tn, ts, rfl, ?_, by rw [HSL.out] at HDG; exact HDG, HCI8⟩
                        have h := HGM.out; have h1 := HUN.out; rw [if_pos htn] at h1
                        simp only [HM0.out]
                        omega
        · obtain rfl : j = l1 := by omega
          have HBE := Lib.hid (Below.next HB2.out HW2O.out)
          go_wp2_with fail
          go_ret
          exact ⟨rfl, HBE.out⟩
end Go.Proofs.YtdlhocghiaghfaaGreatDoor

/-
  The walk of LiveFlows.
-/
import Derived.Test.YtdlhocghiaghfaaGreatDoorLawsL
import Derived.Test.YtdlhocghiaghfaaGreatDoorRNamed
import Derived.Test.YtdlhocghiaghfaaGreatDoorSols
import Derived.Deep.DeepCutAuto
namespace Go.Proofs.YtdlhocghiaghfaaGreatDoor
open Go.RowKit

namespace Live
open Unt Peep
/-- Is a register needed from a place on, as the law reckons it? -/
noncomputable def needB (code : List Ins) (R r t : Nat) : Bool := match code[t]? with | some y => (named y).contains (r : Int) || (decide (gives y ≠ (r : Int)) && (after code R t).contains (r : Int)) | none => false
theorem needB_at {code : List Ins} {R r t : Nat} {y : Ins} (h : code[t]? = some y) : needB code R r t = ((named y).contains (r : Int) || (decide (gives y ≠ (r : Int)) && (after code R t).contains (r : Int))) := by rw [needB, h]
theorem after_has {code : List Ins} {R r t : Nat} {y : Ins} (h : code[t]? = some y) (hr : r < R) : (after code R t).contains (r : Int) = true ↔ ∃ j ∈ succs y t, Need code r j := by
  rw [List.contains_iff_mem, after, h]
  show (r : Int) ∈ live code R (succs y t) ↔ _
  rw [mem_live]
  exact ⟨fun h => h.2, fun h => ⟨⟨by omega, by omega⟩, h⟩⟩
theorem needB_iff {code : List Ins} {R r t : Nat} (ht : t < code.length) (hr : r < R) : needB code R r t = true ↔ Need code r t := by
  have hy := List.getElem?_eq_getElem ht
  rw [needB_at hy, Bool.or_eq_true, Bool.and_eq_true, after_has hy hr, List.contains_iff_mem, decide_eq_true_eq, need_iff hy]
theorem want_all {code : List Ins} {R r k : Nat} {x : Ins} (hx : code[k]? = some x) (hcl : ∀ t ∈ succs x k, t < code.length) (hr : r < R) : (after code R k).contains (r : Int) = (succs x k).any fun t => needB code R r t := by
  rw [Bool.eq_iff_iff, after_has hx hr, List.any_eq_true]
  exact ⟨fun ⟨j, hj, hn⟩ => ⟨j, hj, (needB_iff (hcl j hj) hr).2 hn⟩, fun ⟨j, hj, hn⟩ => ⟨j, hj, (needB_iff (hcl j hj) hr).1 hn⟩⟩
end Live
set_option maxHeartbeats 16000000 in
set_option maxRecDepth 100000 in
theorem liveFlows_walk (u : Unt) (v : Value) (n : Int) (w : World) (hv : UntR w w.heap.size u v) :
    Calls Tryz.prog 8 #[v, .int .i64 n] w fun e w' => e = .returned (.bool true) ∧ Below w.heap.size w w' := by
  obtain ⟨B, hBe⟩ : ∃ B, w.heap.size = B := ⟨_, rfl⟩
  rw [hBe] at hv
  have hB : B ≤ w.heap.size := by omega
  have HBE := Lib.hid hBe
  clear hBe
  have HV := Lib.hid hv
  obtain ⟨cv, pv, rfl, hc, hp⟩ := hv
  obtain ⟨op', np, cp', rfl, hnp, hcapp, hmaxp⟩ := hp.slice
  obtain ⟨ok, nk, ck, rfl, hcx⟩ := hc
  have HP := Lib.hid hp
  have HNP := Lib.hid hnp
  clear hcx hp hnp
  have HAW := Lib.hid (fun X => awake16_any (w.alloc X))
  have BU0 := Lib.hid (BoxL.new (W := w) rfl 25 [.slice ok nk ck, .slice op' np cp'])
  go_enter Tryz.func8, Tryz.ntmps8
  go_wp2_with fail
  refine (HAW.out _).mono ?_
  rintro e w0 ⟨rfl, hb0⟩
  have HB0 := Lib.hid (one_below hb0)
  have BU1 := Lib.hid (BU0.out.keep hb0)
  have U0 := BU1.out.cell 0 rfl
  have U1 := BU1.out.cell 1 rfl
  have hul := BU1.out.lt
  have hs0 := HB0.out.size
  obtain ⟨q, hq⟩ : ∃ q, Unt.fewB u 150 150 = q := ⟨_, rfl⟩
  have HFE := Lib.hid (few16_any u _ 150 B w0 (HV.out.kept (HB0.out.mono hB)) (by omega) (by omega) (by omega) q hq)
  have HQF := Lib.hid hq
  clear hb0 hq HAW BU0
  go_wp2_with fail
  refine HFE.out.mono ?_
  rintro e w1 ⟨rfl, hb1⟩
  have HB1 := Lib.hid (Below.next HB0.out hb1)
  have BU2 := Lib.hid (BU1.out.keep hb1)
  clear hb1 HFE U0 U1 hul hs0
  cases q with
  | false =>
    go_wp2_with fail
    go_ret
    exact ⟨rfl, HB1.out⟩
  | true =>
    have U0 := BU2.out.cell 0 rfl
    have U1 := BU2.out.cell 1 rfl
    have hul := BU2.out.lt
    have HSH := Lib.hid (Live.short_of_few HQF.out (by decide))
    have hs1 := HB1.out.size
    have HAF := Lib.hid (lafter_any u _ n B w1 (HV.out.kept (HB1.out.mono hB)) (by omega) HSH.out)
    obtain ⟨E, hE⟩ : ∃ E, Live.wrongE u n = E := ⟨_, rfl⟩
    rw [hE] at HAF
    by_cases hE0 : E = 0
    · subst hE0
      obtain ⟨hok, i, p, rfl, hpi⟩ := Live.wrongE_zero hE
      have HOKU := Lib.hid (Live.unit_ok hok HSH.out hpi)
      have hin : i < np := by rw [HNP.out]; exact (List.getElem?_eq_some_iff.1 hpi).1
      have HLL := Lib.hid (Live.afterL_len hE hpi)
      have HLG := Lib.hid (fun k (hk : k < p.code.length) => Live.afterL_get hE hpi hk)
      have HPI := Lib.hid hpi
      have hpsh := HSH.out p (List.mem_of_getElem? hpi)
      clear hE hok hpi
      obtain ⟨LL, hLL⟩ : ∃ LL, Live.afterL u (i : Int) = LL := ⟨_, rfl⟩
      rw [hLL] at HAF HLL HLG
      clear hLL
      have fi0 : decide ((i : Int) < 0) = false := decide_eq_false (by omega)
      have fi1 : decide (np ≤ i) = false := decide_eq_false (by omega)
      go_wp2_with fail
      refine HAF.out.mono ?_
      rintro e w2 ⟨sv, rfl, hsv, hb2⟩
      obtain ⟨osv, lsv, csv, rfl⟩ := hsv.form
      have HSV := Lib.hid hsv
      have HB2 := Lib.hid (Below.next HB1.out hb2)
      have BU3 := Lib.hid (BU2.out.keep hb2)
      have HLS := Lib.hid hsv.lens.1
      have hcapv := hsv.lens.2
      clear hsv hb2 HAF U0 U1 hul hs1
      have U1 := BU3.out.cell 1 rfl
      have hul := BU3.out.lt
      have hs2 := HB2.out.size
      have hbw : Below B w w2 := HB2.out.mono hB
      obtain ⟨b1, off1, cs, ho1, hbB, hcl, hcell, hpr⟩ := HP.out.at hbw HPI.out
      subst ho1
      match cs, hcl with
      | [d0, d1, d2, d3, d4], _ =>
        have e0 := hcell 0 _ rfl
        have e1 := hcell 1 _ rfl
        have e2 := hcell 2 _ rfl
        have e3 := hcell 3 _ rfl
        have e4 := hcell 4 _ rfl
        rw [Nat.add_zero] at e0
        obtain ⟨args, rest, regs, code, alive⟩ := p
        obtain ⟨sl, al, he, _, _, hsl, hal⟩ := hpr
        obtain ⟨oc, m, cc, rfl⟩ := hsl.form
        obtain ⟨oal, lal, cal, rfl⟩ := hal.form
        simp only [List.cons.injEq, and_true] at he
        obtain ⟨rfl, rfl, rfl, rfl, rfl⟩ := he
        dsimp only at hsl hpsh
        have HC := Lib.hid hsl
        have HM := Lib.hid hsl.lens.1
        have hmcap := hsl.lens.2
        have hm1 : m ≤ 1000 := by rw [hsl.lens.1]; exact hpsh.1
        have HPS := Lib.hid hpsh.2
        obtain ⟨R, hR, hR2, hco⟩ := HOKU.out
        obtain rfl : regs = (R : Int) := hR
        have HCO2 := Lib.hid hco
        clear hco
        have hlsv : lsv = m := by rw [HLS.out, HLL.out, HM.out]
        subst hlsv
        have hbl := cell_lt e0
        have BX := Lib.hid (BoxL.new (W := w2) rfl 31 [.int .i64 args, .bool rest, .int .i64 R, .slice oc lsv cc, .slice oal lal cal])
        clear hcell hcl hsl hal hpsh
        go_upto_region 12 with fail
        obtain ⟨W, hW⟩ : ∃ W, w2.alloc (.cells #[.int .i64 args, .bool rest, .int .i64 R, .slice oc lsv cc, .slice oal lal cal] 31) = W := ⟨_, rfl⟩
        have HBX := Lib.hid (show BoxL W w2.heap.size 31 [.int .i64 args, .bool rest, .int .i64 R, .slice oc lsv cc, .slice oal lal cal] from by rw [← hW]; exact BX.out)
        have HW2 := Lib.hid (show Below w2.heap.size w2 W from by rw [← hW]; exact Below.one w2 _)
        rw [hW]
        have HWR := Lib.hid (Below.refl W.heap.size W)
        clear hW BX e0 e1 e2 e3 e4 U1
        go_wp2_with fail
        go_loopg [9] lsv (fun G i wr => ∃ k : Nat, G = lsv - k ∧ k ≤ lsv ∧ i = .int .i64 k ∧ Hid (Below W.heap.size W wr))
        case atStart => exact ⟨0, rfl, by omega, rfl, HWR⟩
        case round =>
          obtain ⟨k, rfl, hk, rfl, HW⟩ := hrel
          clear HWR
          have r3 := (HBX.out.keep HW.out).cell 3 rfl
          have r0 := (HBX.out.keep HW.out).lt
          have HW2W := Lib.hid (Below.next HW2.out HW.out)
          by_cases hkm : k < lsv
          · obtain ⟨x, hx⟩ : ∃ x, code[k]? = some x := ⟨_, List.getElem?_eq_getElem (by rw [← HM.out]; exact hkm)⟩
            have hbw : Below B w wr := (HB2.out.mono hB).trans (HW2W.out.mono (by have := HB2.out.size; omega))
            obtain ⟨b6, off6, cs6, ho6, hb6B, hcl6, hcell, hins⟩ := HC.out.at hbw hx
            have HX := Lib.hid hx
            match cs6, hcl6 with
            | [t0, t1, t2, t3, t4], _ =>
              have e0 := hcell 0 _ rfl
              have e1 := hcell 1 _ rfl
              have e2 := hcell 2 _ rfl
              have e3 := hcell 3 _ rfl
              have e4 := hcell 4 _ rfl
              rw [Nat.add_zero] at e0
              have hgs := goes_succs HCO2.out.2.2.2.2.1 hx
              obtain ⟨SU, hSU⟩ : ∃ SU, Peep.succs x k = SU := ⟨_, rfl⟩
              have HSU := Lib.hid hSU
              have HTO := Lib.hid (show ∀ y ∈ SU, y < lsv from fun y hy => by rw [HM.out]; exact HCO2.out.2.2.2.1.2 k x hx y (by rw [hSU]; exact hy))
              rw [hSU] at hgs
              obtain ⟨op, d, xa, xb, l⟩ := x
              obtain ⟨sl, he, _, _, hxa, hxb, hsl⟩ := hins
              obtain ⟨o4, l4, c4', rfl⟩ := hsl.form
              simp only [List.cons.injEq, and_true] at he
              obtain ⟨rfl, rfl, rfl, rfl, rfl⟩ := he
              dsimp only at hxa hxb
              have hbl6 := cell_lt e0
              have HLG2 := Lib.hid (fun k' (hk' : k' < lsv) => show LL[k']? = some (Live.after code R k') from by
                have h := HLG.out k' (by show k' < code.length; rw [← HM.out]; exact hk')
                rw [Int.toNat_natCast] at h
                exact h)
              have HXA := Lib.hid (show I64 xa from hxa)
              have HXB := Lib.hid (show I64 xb from hxb)
              have hk64 : I64 ((k : Int) + 1) := ⟨by omega, by omega⟩
              have HK := Lib.hid hk64
              have HXN := Lib.hid (show BoxL (wr.alloc (.cells #[.int .i64 op, .int .i64 d, .int .i64 xa, .int .i64 xb, .slice o4 l4 c4'] 34)) wr.heap.size 34 [.int .i64 op, .int .i64 d, .int .i64 xa, .int .i64 xb, .slice o4 l4 c4'] from BoxL.new rfl _ _)
              have HGS := Lib.hid hgs
              clear hcell hsl hx hcl6 hgs hSU hxa hxb hk64
              subst ho6
              by_cases h15 : op = 15
              · as_aux_lemma =>
                subst h15
                have HGE := Lib.hid (show SU.map (fun (y : Nat) => (y : Int)) = [xa] from by rw [← HGS.out]; rfl)
                have HNW := Lib.hid (show SlC ((wr.alloc (.cells #[.int .i64 15, .int .i64 d, .int .i64 xa, .int .i64 xb, .slice o4 l4 c4'] 34)).alloc (.cells [.int .i64 xa].toArray 3)) ((wr.alloc (.cells #[.int .i64 15, .int .i64 d, .int .i64 xa, .int .i64 xb, .slice o4 l4 c4'] 34)).alloc (.cells [.int .i64 xa].toArray 3)).heap.size 1 IntR [xa] (.slice (some ⟨wr.heap.size + 1, 0, none⟩) 1 1) from intsNew (l := [xa]) (by simp) (by simp) 3 (by simp [HXA.out]) 1 rfl (by omega))
                have HBW := Lib.hid (show Below wr.heap.size wr ((wr.alloc (.cells #[.int .i64 15, .int .i64 d, .int .i64 xa, .int .i64 xb, .slice o4 l4 c4'] 34)).alloc (.cells [.int .i64 xa].toArray 3)) from (Below.one wr _).trans ((Below.one _ _).mono (by simp)))
                have HXO := Lib.hid (HXN.out.alloc (.cells [.int .i64 xa].toArray 3))
                go_wp2_with (at_builtin; refine wpList_append_ints rfl (.tmp 84) (.tmp 87) rfl wr.heap.size _ (.slice none 0 0) [] [xa] rfl (World.ownsRow_nil _ _ _ _) (some ⟨wr.heap.size + 1, 0, none⟩) 1 1 rfl HNW.out (by simp) (by first | (simp; omega) | simp) ?_)
                intro v' w3 hown hgrow
                have HON : Hid (SlC w3 w3.heap.size 1 IntR (SU.map fun (y : Nat) => (y : Int)) v') := Lib.hid (by rw [HGE.out]; exact rowInts (l := [xa]) hown (by simp [HXA.out]))
                have HW3 := Lib.hid (Below.next HW.out (HBW.out.grown hgrow HBW.out.size (fun g hg => by simp [Value.ownBlock] at hg)))
                have bx : BoxL w3 wr.heap.size 34 [.int .i64 15, .int .i64 d, .int .i64 xa, .int .i64 xb, .slice o4 l4 c4'] := (hgrow.block _ HXO.out.lt (by simp [Value.ownBlock])).trans HXO.out
                have x0 := bx.cell 0 rfl
                have x3 := bx.cell 3 rfl
                have hbxl := bx.lt
                obtain ⟨oo, lo, co, rfl⟩ := HON.out.form
                clear hown hgrow bx HNW HXN HXO e0 e1 e2 e3 e4 r0 r3
                -- where one goes on: lo places
                have HLO := Lib.hid (show lo = SU.length from by rw [HON.out.lens.1, List.length_map])
                have hlo2 : lo ≤ 2 := by rw [HLO.out, ← HSU.out]; exact succs_len _ _
                have hlcap := HON.out.lens.2
                have HW30 := Lib.hid (Below.refl w3.heap.size w3)
                have q2 := (HBX.out.keep HW3.out).cell 2 rfl
                have hq2 := (HBX.out.keep HW3.out).lt
                go_wp2_with fail
                go_loopg [12] R (fun G i wr => ∃ r : Nat, G = R - r ∧ r ≤ R ∧ i = .int .i64 r ∧ Hid (Below w3.heap.size w3 wr))
                case atStart => exact ⟨0, rfl, by omega, rfl, HW30⟩
                case round =>
                  obtain ⟨r, rfl, hr, rfl, HWr⟩ := hrel
                  clear HW30
                  have HWW := Lib.hid (Below.next HW3.out HWr.out)
                  have q2 := (HBX.out.keep HWW.out).cell 2 rfl
                  have q3 := (HBX.out.keep HWW.out).cell 3 rfl
                  have hq2 := (HBX.out.keep HWW.out).lt
                  by_cases hrR : r < R
                  · have HWq0 := Lib.hid (Below.refl wr.heap.size wr)
                    have HW00 := Lib.hid (show ((SU.take 0).any fun t => Live.needB code R r t) = false from by simp)
                    go_wp2_with fail
                    go_loopg [13, 14] lo (fun G c i wq => ∃ (j : Nat) (q : Bool), G = lo - j ∧ j ≤ lo ∧ i = .int .i64 j ∧ c = .bool q ∧ Hid (((SU.take j).any fun t => Live.needB code R r t) = q) ∧ Hid (Below wr.heap.size wr wq))
                    case atStart => exact ⟨0, false, rfl, by omega, rfl, rfl, HW00, HWq0⟩
                    case round => as_aux_lemma =>
                      obtain ⟨j, q, rfl, hj, rfl, rfl, HQ, HWq⟩ := hrel
                      clear HWq0 HW00 q2 q3 hq2
                      have HWA := Lib.hid (Below.next HWr.out HWq.out)
                      have HWB := Lib.hid (Below.next HW3.out HWA.out)
                      have HWC := Lib.hid (Below.next HW2.out HWB.out)
                      have q3 := (HBX.out.keep HWB.out).cell 3 rfl
                      have hq2 := (HBX.out.keep HWB.out).lt
                      by_cases hjl : j < lo
                      · obtain ⟨t, ht⟩ : ∃ t, SU[j]? = some t := ⟨_, List.getElem?_eq_getElem (by rw [← HLO.out]; exact hjl)⟩
                        have htl : t < lsv := HTO.out t (List.mem_of_getElem? ht)
                        obtain ⟨b5, off5, es, ho5, hb5, hel, hecell, hei⟩ := (HON.out.kept HWA.out fun _ _ _ h => h).at (Below.refl _ _) (show (SU.map fun (y : Nat) => (y : Int))[j]? = some (t : Int) from by simp [ht])
                        subst ho5
                        have g0 := hecell 0 (.int .i64 t) (by rw [hei.1]; rfl)
                        rw [Nat.mul_one, Nat.add_zero] at g0
                        obtain ⟨y, hy⟩ : ∃ y, code[t]? = some y := ⟨_, List.getElem?_eq_getElem (by rw [← HM.out]; exact htl)⟩
                        have hbw5 : Below B w wr := (HB2.out.mono hB).trans (HWC.out.mono (by have := HB2.out.size; omega))
                        obtain ⟨b8, off8, cs8, ho8, hb8B, hcl8, hcell8, hins8⟩ := HC.out.at hbw5 hy
                        simp only [Option.some.injEq, Addr.mk.injEq, and_true] at ho8
                        obtain ⟨rfl, rfl⟩ := ho8
                        obtain ⟨b9, off9, cs9, ho9, hb9B, hcl9, hcell9, sl9, rfl, hsl9⟩ := HSV.out.at (HWC.out) (HLG2.out t htl)
                        have cp0 := hcell9 0 _ rfl
                        rw [Nat.mul_one, Nat.add_zero] at cp0
                        have hosv := ho9
                        obtain ⟨oq, lenq, cq, rfl⟩ := hsl9.form
                        have HSL9 := Lib.hid hsl9
                        have hyl := HPS.out y (List.mem_of_getElem? hy)
                        have hyop := HCO2.out.1 y (List.mem_of_getElem? hy)
                        have HND := Lib.hid (Live.needB_at (R := R) (r := r) hy)
                        have HTK := Lib.hid (show SU.take (j + 1) = SU.take j ++ [t] from by rw [List.take_add_one, ht]; rfl)
                        match cs8, hcl8 with
                        | [y0, y1, y2, y3, y4], _ =>
                          have p0 := hcell8 0 _ rfl
                          have p1 := hcell8 1 _ rfl
                          have p2 := hcell8 2 _ rfl
                          have p3 := hcell8 3 _ rfl
                          have p4 := hcell8 4 _ rfl
                          rw [Nat.add_zero] at p0
                          have HNM := Lib.hid (fun (V : World) (hV : V = wr.drew) => named_any y y0 y1 y2 y3 y4 B V (by rw [hV]; exact hins8.kept hbw5.drew) (by rw [hV]; have := hbw5.size; show B ≤ wr.heap.size; omega) (Nat.le_trans hyl (by decide)) hyop.1 hyop.2)
                          obtain ⟨N, hN⟩ : ∃ N, Unt.named y = N := ⟨_, rfl⟩
                          obtain ⟨gd, hgd⟩ : ∃ gd, Unt.gives y = gd := ⟨_, rfl⟩
                          have hNl : N.length ≤ 1000000 := by rw [← hN]; have := named_len y; omega
                          unfold NamedPost at HNM
                          rw [hN, hgd] at HND
                          rw [hN, hgd] at HNM
                          obtain ⟨yop, yd, ya, yb, yl⟩ := y
                          obtain ⟨sl, he, _, _, _, _, hsly⟩ := hins8
                          obtain ⟨oy, ly, cy, rfl⟩ := hsly.form
                          simp only [List.cons.injEq, and_true] at he
                          obtain ⟨rfl, rfl, rfl, rfl, rfl⟩ := he
                          have hpl := cell_lt p0
                          have hg0l := cell_lt g0
                          subst hosv
                          clear hecell hei ht hcell8 hcl8 hcell9 hcl9 hsl9 hsly hy hN hgd ho9 hyl hyop
                          go_upto_region 30 with fail
                          go_cut [15, 16] (fun c dv wx => (∃ on ln cn, c = .slice on ln cn) ∧ dv = .int .i64 gd ∧ SlC wx wx.heap.size 1 IntR N c ∧ Below wr.heap.size wr wx)
                          case first => as_aux_lemma =>
                            go_region_with (go_at_call 29; refine (HNM.out _ rfl).mono ?_; rintro e w5 ⟨sn, rfl, hsn, hb5'⟩; obtain ⟨on, ln, cn, rfl⟩ := hsn.form)
                            all_goals (go_wp2_with fail; go_meet; exact ⟨⟨_, _, _, rfl⟩, rfl, hsn, (Below.refl wr.heap.size wr).drew.trans hb5'⟩)
                          case rest =>
                          obtain ⟨⟨on, ln, cn, rfl⟩, rfl, hsn, hb6⟩ := hcut
                          have HHA := Lib.hid (fun b hb => has16_any N _ r wc.heap.size wc hsn b hb hNl)
                          have HHB := Lib.hid (fun b hb => has16_any (Live.after code R t) _ r w2.heap.size wc (HSL9.out.kept (HWC.out.trans (hb6.mono HWC.out.size)) fun _ _ _ h => h) b hb (Nat.le_trans (Live.after_len _ _ _) (by omega)))
                          have HW6 := Lib.hid (Below.next HWq.out hb6)
                          have cp1 := keepC hb6 cp0
                          have g1 := keepC hb6 g0
                          have hc1 := cell_lt cp1
                          have hg1 := cell_lt g1
                          clear hb6 hsn HNM p0 p1 p2 p3 p4 q3 cp0 g0
                          cases q with
                          | true =>
                            have HQ2 := Lib.hid (show ((SU.take (j + 1)).any fun t => Live.needB code R r t) = true from by rw [HTK.out, List.any_append, HQ.out]; rfl)
                            clear HHA HHB
                            go_wp2_with fail
                            go_roundg (lo - (j + 1))
                            case measure => omega
                            case rel => exact ⟨j + 1, true, rfl, by omega, by go_num, rfl, HQ2, HW6⟩
                          | false =>
                            have HQ3 := Lib.hid (show ((SU.take (j + 1)).any fun t => Live.needB code R r t) = Live.needB code R r t from by rw [HTK.out, List.any_append, HQ.out]; simp)
                            obtain ⟨h1, hh1⟩ : ∃ h1, N.contains (r : Int) = h1 := ⟨_, rfl⟩
                            have HHA2 := Lib.hid (HHA.out h1 hh1)
                            rw [hh1] at HND
                            clear hh1 HHA
                            cases h1 with
                            | true =>
                              have HQ2 := Lib.hid (show ((SU.take (j + 1)).any fun t => Live.needB code R r t) = true from by rw [HQ3.out, HND.out]; rfl)
                              clear HHB
                              go_wp2_with fail
                              refine HHA2.out.mono ?_
                              rintro e w6 ⟨rfl, rfl⟩
                              go_wp2_with fail
                              go_roundg (lo - (j + 1))
                              case measure => omega
                              case rel => exact ⟨j + 1, true, rfl, by omega, by go_num, rfl, HQ2, HW6⟩
                            | false =>
                              by_cases hgr : gd = (r : Int)
                              · have fg : (gd != (r : Int)) = false := by simpa using hgr
                                have HQ2 := Lib.hid (show ((SU.take (j + 1)).any fun t => Live.needB code R r t) = false from by rw [HQ3.out, HND.out, hgr]; simp)
                                clear HHB hgr
                                go_wp2_with fail
                                refine HHA2.out.mono ?_
                                rintro e w6 ⟨rfl, rfl⟩
                                go_wp2_with fail
                                go_roundg (lo - (j + 1))
                                case measure => omega
                                case rel => exact ⟨j + 1, false, rfl, by omega, by go_num, rfl, HQ2, HW6⟩
                              · have fg : (gd != (r : Int)) = true := by simpa using hgr
                                obtain ⟨h2, hh2⟩ : ∃ h2, (Live.after code R t).contains (r : Int) = h2 := ⟨_, rfl⟩
                                have HHB2 := Lib.hid (HHB.out h2 hh2)
                                have HQ2 := Lib.hid (show ((SU.take (j + 1)).any fun t => Live.needB code R r t) = h2 from by rw [HQ3.out, HND.out, hh2]; simp [hgr])
                                clear HHB hgr hh2
                                go_wp2_with fail
                                refine HHA2.out.mono ?_
                                rintro e w6 ⟨rfl, rfl⟩
                                go_wp2_with fail
                                refine HHB2.out.mono ?_
                                rintro e w7 ⟨rfl, rfl⟩
                                go_wp2_with fail
                                go_roundg (lo - (j + 1))
                                case measure => omega
                                case rel => exact ⟨j + 1, h2, rfl, by omega, by go_num, rfl, HQ2, HW6⟩
                      · obtain rfl : j = lo := by omega
                        have HQE := Lib.hid (show (Live.after code R k).contains (r : Int) = q from by
                          have h := HQ.out
                          rw [List.take_of_length_le (by rw [← HLO.out]; exact Nat.le_refl _)] at h
                          rw [← h, ← HSU.out]
                          exact Live.want_all HX.out (fun t ht => by rw [← HM.out]; exact HTO.out t (by rw [← HSU.out]; exact ht)) hrR)
                        obtain ⟨b9, off9, cs9, ho9, hb9B, hcl9, hcell9, sl9, rfl, hsl9⟩ := HSV.out.at (HWC.out) (HLG2.out k hkm)
                        have cp0 := hcell9 0 _ rfl
                        rw [Nat.mul_one, Nat.add_zero] at cp0
                        obtain ⟨oq, lenq, cq, rfl⟩ := hsl9.form
                        have HHK := Lib.hid (has16_any (Live.after code R k) _ r w2.heap.size wr (hsl9.kept HWC.out fun _ _ _ h => h) q HQE.out (Nat.le_trans (Live.after_len _ _ _) (by omega)))
                        have hc1 := cell_lt cp0
                        have HWF := Lib.hid (Below.next HWr.out HWq.out)
                        subst ho9
                        clear hcell9 hcl9 hsl9 HWA HWB HWC
                        cases q with
                        | true =>
                          go_wp2_with fail
                          refine HHK.out.mono ?_
                          rintro e w6 ⟨rfl, rfl⟩
                          go_wp2_with fail
                          refine HHK.out.mono ?_
                          rintro e w6 ⟨rfl, rfl⟩
                          go_wp2_with fail
                          go_roundg (R - (r + 1))
                          case measure => omega
                          case rel => exact ⟨r + 1, rfl, by omega, by go_num, HWF⟩
                        | false =>
                          go_wp2_with fail
                          refine HHK.out.mono ?_
                          rintro e w6 ⟨rfl, rfl⟩
                          go_wp2_with fail
                          refine HHK.out.mono ?_
                          rintro e w6 ⟨rfl, rfl⟩
                          go_wp2_with fail
                          go_roundg (R - (r + 1))
                          case measure => omega
                          case rel => exact ⟨r + 1, rfl, by omega, by go_num, HWF⟩
                  · obtain rfl : r = R := by omega
                    go_wp2_with fail
                    go_roundg (lsv - (k + 1))
                    case measure => omega
                    case rel => exact ⟨k + 1, rfl, by omega, by go_num, HWW⟩
              have f15 : (op == 15) = false := by simpa using h15
              have f15' : (op != 15) = true := by simpa using h15
              by_cases h16 : op = 16
              · as_aux_lemma =>
                subst h16
                have HGE := Lib.hid (show SU.map (fun (y : Nat) => (y : Int)) = [(k : Int) + 1, xb] from by rw [← HGS.out]; rfl)
                have HNW := Lib.hid (show SlC ((wr.alloc (.cells #[.int .i64 16, .int .i64 d, .int .i64 xa, .int .i64 xb, .slice o4 l4 c4'] 34)).alloc (.cells [.int .i64 ((k : Int) + 1)].toArray 3)) ((wr.alloc (.cells #[.int .i64 16, .int .i64 d, .int .i64 xa, .int .i64 xb, .slice o4 l4 c4'] 34)).alloc (.cells [.int .i64 ((k : Int) + 1)].toArray 3)).heap.size 1 IntR [(k : Int) + 1] (.slice (some ⟨wr.heap.size + 1, 0, none⟩) 1 1) from intsNew (l := [(k : Int) + 1]) (by simp) (by simp) 3 (by simp [HK.out]) 1 rfl (by omega))
                have HBW := Lib.hid (show Below wr.heap.size wr ((wr.alloc (.cells #[.int .i64 16, .int .i64 d, .int .i64 xa, .int .i64 xb, .slice o4 l4 c4'] 34)).alloc (.cells [.int .i64 ((k : Int) + 1)].toArray 3)) from (Below.one wr _).trans ((Below.one _ _).mono (by simp)))
                have HXO := Lib.hid (HXN.out.alloc (.cells [.int .i64 ((k : Int) + 1)].toArray 3))
                go_wp2_with (at_builtin; refine wpList_append_ints rfl (.tmp 76) (.tmp 79) rfl (wr.heap.size + 1) _ (.slice none 0 0) [] [(k : Int) + 1] rfl (World.ownsRow_nil _ _ _ _) (some ⟨wr.heap.size + 1, 0, none⟩) 1 1 rfl HNW.out (by simp) (by first | (simp; omega) | simp) ?_)
                intro v1 w30 hown1 hgrow1
                have HOW := Lib.hid hown1
                have HW30a := Lib.hid (HBW.out.grown hgrow1 HBW.out.size (fun g hg => by simp [Value.ownBlock] at hg))
                have HBX3 := Lib.hid (show BoxL w30 wr.heap.size 34 [.int .i64 16, .int .i64 d, .int .i64 xa, .int .i64 xb, .slice o4 l4 c4'] from (hgrow1.block _ HXO.out.lt (by simp [Value.ownBlock])).trans HXO.out)
                have x0 := HBX3.out.cell 0 rfl
                have x3 := HBX3.out.cell 3 rfl
                have hbxl := HBX3.out.lt
                have hszb := HW30a.out.size
                have HNW2 := Lib.hid (show SlC (w30.alloc (.cells [.int .i64 xb].toArray 3)) (w30.alloc (.cells [.int .i64 xb].toArray 3)).heap.size 1 IntR [xb] (.slice (some ⟨w30.heap.size, 0, none⟩) 1 1) from intsNew (l := [xb]) (by simp) (by simp) 3 (by simp [HXB.out]) 1 rfl (by omega))
                clear hown1 hgrow1 HNW HXN HXO e0 e1 e2 e3 e4 r0 r3
                go_wp2_with (at_builtin; refine wpList_append_ints rfl (.tmp 92) (.tmp 95) rfl (wr.heap.size + 1) _ v1 [(k : Int) + 1] [xb] rfl (HOW.out.alloc _) (some ⟨w30.heap.size, 0, none⟩) 1 1 rfl HNW2.out (by simp) (by first | (simp; omega) | simp) ?_)
                intro v' w3 hown hgrow
                have HON : Hid (SlC w3 w3.heap.size 1 IntR (SU.map fun (y : Nat) => (y : Int)) v') := Lib.hid (by rw [HGE.out]; exact rowInts (l := [(k : Int) + 1, xb]) hown (by simp [HK.out, HXB.out]))
                have HW3 := Lib.hid (Below.next HW.out ((HW30a.out.trans ((Below.one w30 _).mono hszb)).grown hgrow (by simp; omega) (fun g hg => by have := (HOW.out.lt g hg).1; omega)))
                obtain ⟨oo, lo, co, rfl⟩ := HON.out.form
                clear hown hgrow HNW2 x0 x3 hbxl HBX3
                -- where one goes on: lo places
                have HLO := Lib.hid (show lo = SU.length from by rw [HON.out.lens.1, List.length_map])
                have hlo2 : lo ≤ 2 := by rw [HLO.out, ← HSU.out]; exact succs_len _ _
                have hlcap := HON.out.lens.2
                have HW30 := Lib.hid (Below.refl w3.heap.size w3)
                have q2 := (HBX.out.keep HW3.out).cell 2 rfl
                have hq2 := (HBX.out.keep HW3.out).lt
                go_wp2_with fail
                go_loopg [12] R (fun G i wr => ∃ r : Nat, G = R - r ∧ r ≤ R ∧ i = .int .i64 r ∧ Hid (Below w3.heap.size w3 wr))
                case atStart => exact ⟨0, rfl, by omega, rfl, HW30⟩
                case round =>
                  obtain ⟨r, rfl, hr, rfl, HWr⟩ := hrel
                  clear HW30
                  have HWW := Lib.hid (Below.next HW3.out HWr.out)
                  have q2 := (HBX.out.keep HWW.out).cell 2 rfl
                  have q3 := (HBX.out.keep HWW.out).cell 3 rfl
                  have hq2 := (HBX.out.keep HWW.out).lt
                  by_cases hrR : r < R
                  · have HWq0 := Lib.hid (Below.refl wr.heap.size wr)
                    have HW00 := Lib.hid (show ((SU.take 0).any fun t => Live.needB code R r t) = false from by simp)
                    go_wp2_with fail
                    go_loopg [13, 14] lo (fun G c i wq => ∃ (j : Nat) (q : Bool), G = lo - j ∧ j ≤ lo ∧ i = .int .i64 j ∧ c = .bool q ∧ Hid (((SU.take j).any fun t => Live.needB code R r t) = q) ∧ Hid (Below wr.heap.size wr wq))
                    case atStart => exact ⟨0, false, rfl, by omega, rfl, rfl, HW00, HWq0⟩
                    case round => as_aux_lemma =>
                      obtain ⟨j, q, rfl, hj, rfl, rfl, HQ, HWq⟩ := hrel
                      clear HWq0 HW00 q2 q3 hq2
                      have HWA := Lib.hid (Below.next HWr.out HWq.out)
                      have HWB := Lib.hid (Below.next HW3.out HWA.out)
                      have HWC := Lib.hid (Below.next HW2.out HWB.out)
                      have q3 := (HBX.out.keep HWB.out).cell 3 rfl
                      have hq2 := (HBX.out.keep HWB.out).lt
                      by_cases hjl : j < lo
                      · obtain ⟨t, ht⟩ : ∃ t, SU[j]? = some t := ⟨_, List.getElem?_eq_getElem (by rw [← HLO.out]; exact hjl)⟩
                        have htl : t < lsv := HTO.out t (List.mem_of_getElem? ht)
                        obtain ⟨b5, off5, es, ho5, hb5, hel, hecell, hei⟩ := (HON.out.kept HWA.out fun _ _ _ h => h).at (Below.refl _ _) (show (SU.map fun (y : Nat) => (y : Int))[j]? = some (t : Int) from by simp [ht])
                        subst ho5
                        have g0 := hecell 0 (.int .i64 t) (by rw [hei.1]; rfl)
                        rw [Nat.mul_one, Nat.add_zero] at g0
                        obtain ⟨y, hy⟩ : ∃ y, code[t]? = some y := ⟨_, List.getElem?_eq_getElem (by rw [← HM.out]; exact htl)⟩
                        have hbw5 : Below B w wr := (HB2.out.mono hB).trans (HWC.out.mono (by have := HB2.out.size; omega))
                        obtain ⟨b8, off8, cs8, ho8, hb8B, hcl8, hcell8, hins8⟩ := HC.out.at hbw5 hy
                        simp only [Option.some.injEq, Addr.mk.injEq, and_true] at ho8
                        obtain ⟨rfl, rfl⟩ := ho8
                        obtain ⟨b9, off9, cs9, ho9, hb9B, hcl9, hcell9, sl9, rfl, hsl9⟩ := HSV.out.at (HWC.out) (HLG2.out t htl)
                        have cp0 := hcell9 0 _ rfl
                        rw [Nat.mul_one, Nat.add_zero] at cp0
                        have hosv := ho9
                        obtain ⟨oq, lenq, cq, rfl⟩ := hsl9.form
                        have HSL9 := Lib.hid hsl9
                        have hyl := HPS.out y (List.mem_of_getElem? hy)
                        have hyop := HCO2.out.1 y (List.mem_of_getElem? hy)
                        have HND := Lib.hid (Live.needB_at (R := R) (r := r) hy)
                        have HTK := Lib.hid (show SU.take (j + 1) = SU.take j ++ [t] from by rw [List.take_add_one, ht]; rfl)
                        match cs8, hcl8 with
                        | [y0, y1, y2, y3, y4], _ =>
                          have p0 := hcell8 0 _ rfl
                          have p1 := hcell8 1 _ rfl
                          have p2 := hcell8 2 _ rfl
                          have p3 := hcell8 3 _ rfl
                          have p4 := hcell8 4 _ rfl
                          rw [Nat.add_zero] at p0
                          have HNM := Lib.hid (fun (V : World) (hV : V = wr.drew) => named_any y y0 y1 y2 y3 y4 B V (by rw [hV]; exact hins8.kept hbw5.drew) (by rw [hV]; have := hbw5.size; show B ≤ wr.heap.size; omega) (Nat.le_trans hyl (by decide)) hyop.1 hyop.2)
                          obtain ⟨N, hN⟩ : ∃ N, Unt.named y = N := ⟨_, rfl⟩
                          obtain ⟨gd, hgd⟩ : ∃ gd, Unt.gives y = gd := ⟨_, rfl⟩
                          have hNl : N.length ≤ 1000000 := by rw [← hN]; have := named_len y; omega
                          unfold NamedPost at HNM
                          rw [hN, hgd] at HND
                          rw [hN, hgd] at HNM
                          obtain ⟨yop, yd, ya, yb, yl⟩ := y
                          obtain ⟨sl, he, _, _, _, _, hsly⟩ := hins8
                          obtain ⟨oy, ly, cy, rfl⟩ := hsly.form
                          simp only [List.cons.injEq, and_true] at he
                          obtain ⟨rfl, rfl, rfl, rfl, rfl⟩ := he
                          have hpl := cell_lt p0
                          have hg0l := cell_lt g0
                          subst hosv
                          clear hecell hei ht hcell8 hcl8 hcell9 hcl9 hsl9 hsly hy hN hgd ho9 hyl hyop
                          go_upto_region 30 with fail
                          go_cut [15, 16] (fun c dv wx => (∃ on ln cn, c = .slice on ln cn) ∧ dv = .int .i64 gd ∧ SlC wx wx.heap.size 1 IntR N c ∧ Below wr.heap.size wr wx)
                          case first => as_aux_lemma =>
                            go_region_with (go_at_call 29; refine (HNM.out _ rfl).mono ?_; rintro e w5 ⟨sn, rfl, hsn, hb5'⟩; obtain ⟨on, ln, cn, rfl⟩ := hsn.form)
                            all_goals (go_wp2_with fail; go_meet; exact ⟨⟨_, _, _, rfl⟩, rfl, hsn, (Below.refl wr.heap.size wr).drew.trans hb5'⟩)
                          case rest =>
                          obtain ⟨⟨on, ln, cn, rfl⟩, rfl, hsn, hb6⟩ := hcut
                          have HHA := Lib.hid (fun b hb => has16_any N _ r wc.heap.size wc hsn b hb hNl)
                          have HHB := Lib.hid (fun b hb => has16_any (Live.after code R t) _ r w2.heap.size wc (HSL9.out.kept (HWC.out.trans (hb6.mono HWC.out.size)) fun _ _ _ h => h) b hb (Nat.le_trans (Live.after_len _ _ _) (by omega)))
                          have HW6 := Lib.hid (Below.next HWq.out hb6)
                          have cp1 := keepC hb6 cp0
                          have g1 := keepC hb6 g0
                          have hc1 := cell_lt cp1
                          have hg1 := cell_lt g1
                          clear hb6 hsn HNM p0 p1 p2 p3 p4 q3 cp0 g0
                          cases q with
                          | true =>
                            have HQ2 := Lib.hid (show ((SU.take (j + 1)).any fun t => Live.needB code R r t) = true from by rw [HTK.out, List.any_append, HQ.out]; rfl)
                            clear HHA HHB
                            go_wp2_with fail
                            go_roundg (lo - (j + 1))
                            case measure => omega
                            case rel => exact ⟨j + 1, true, rfl, by omega, by go_num, rfl, HQ2, HW6⟩
                          | false =>
                            have HQ3 := Lib.hid (show ((SU.take (j + 1)).any fun t => Live.needB code R r t) = Live.needB code R r t from by rw [HTK.out, List.any_append, HQ.out]; simp)
                            obtain ⟨h1, hh1⟩ : ∃ h1, N.contains (r : Int) = h1 := ⟨_, rfl⟩
                            have HHA2 := Lib.hid (HHA.out h1 hh1)
                            rw [hh1] at HND
                            clear hh1 HHA
                            cases h1 with
                            | true =>
                              have HQ2 := Lib.hid (show ((SU.take (j + 1)).any fun t => Live.needB code R r t) = true from by rw [HQ3.out, HND.out]; rfl)
                              clear HHB
                              go_wp2_with fail
                              refine HHA2.out.mono ?_
                              rintro e w6 ⟨rfl, rfl⟩
                              go_wp2_with fail
                              go_roundg (lo - (j + 1))
                              case measure => omega
                              case rel => exact ⟨j + 1, true, rfl, by omega, by go_num, rfl, HQ2, HW6⟩
                            | false =>
                              by_cases hgr : gd = (r : Int)
                              · have fg : (gd != (r : Int)) = false := by simpa using hgr
                                have HQ2 := Lib.hid (show ((SU.take (j + 1)).any fun t => Live.needB code R r t) = false from by rw [HQ3.out, HND.out, hgr]; simp)
                                clear HHB hgr
                                go_wp2_with fail
                                refine HHA2.out.mono ?_
                                rintro e w6 ⟨rfl, rfl⟩
                                go_wp2_with fail
                                go_roundg (lo - (j + 1))
                                case measure => omega
                                case rel => exact ⟨j + 1, false, rfl, by omega, by go_num, rfl, HQ2, HW6⟩
                              · have fg : (gd != (r : Int)) = true := by simpa using hgr
                                obtain ⟨h2, hh2⟩ : ∃ h2, (Live.after code R t).contains (r : Int) = h2 := ⟨_, rfl⟩
                                have HHB2 := Lib.hid (HHB.out h2 hh2)
                                have HQ2 := Lib.hid (show ((SU.take (j + 1)).any fun t => Live.needB code R r t) = h2 from by rw [HQ3.out, HND.out, hh2]; simp [hgr])
                                clear HHB hgr hh2
                                go_wp2_with fail
                                refine HHA2.out.mono ?_
                                rintro e w6 ⟨rfl, rfl⟩
                                go_wp2_with fail
                                refine HHB2.out.mono ?_
                                rintro e w7 ⟨rfl, rfl⟩
                                go_wp2_with fail
                                go_roundg (lo - (j + 1))
                                case measure => omega
                                case rel => exact ⟨j + 1, h2, rfl, by omega, by go_num, rfl, HQ2, HW6⟩
                      · obtain rfl : j = lo := by omega
                        have HQE := Lib.hid (show (Live.after code R k).contains (r : Int) = q from by
                          have h := HQ.out
                          rw [List.take_of_length_le (by rw [← HLO.out]; exact Nat.le_refl _)] at h
                          rw [← h, ← HSU.out]
                          exact Live.want_all HX.out (fun t ht => by rw [← HM.out]; exact HTO.out t (by rw [← HSU.out]; exact ht)) hrR)
                        obtain ⟨b9, off9, cs9, ho9, hb9B, hcl9, hcell9, sl9, rfl, hsl9⟩ := HSV.out.at (HWC.out) (HLG2.out k hkm)
                        have cp0 := hcell9 0 _ rfl
                        rw [Nat.mul_one, Nat.add_zero] at cp0
                        obtain ⟨oq, lenq, cq, rfl⟩ := hsl9.form
                        have HHK := Lib.hid (has16_any (Live.after code R k) _ r w2.heap.size wr (hsl9.kept HWC.out fun _ _ _ h => h) q HQE.out (Nat.le_trans (Live.after_len _ _ _) (by omega)))
                        have hc1 := cell_lt cp0
                        have HWF := Lib.hid (Below.next HWr.out HWq.out)
                        subst ho9
                        clear hcell9 hcl9 hsl9 HWA HWB HWC
                        cases q with
                        | true =>
                          go_wp2_with fail
                          refine HHK.out.mono ?_
                          rintro e w6 ⟨rfl, rfl⟩
                          go_wp2_with fail
                          refine HHK.out.mono ?_
                          rintro e w6 ⟨rfl, rfl⟩
                          go_wp2_with fail
                          go_roundg (R - (r + 1))
                          case measure => omega
                          case rel => exact ⟨r + 1, rfl, by omega, by go_num, HWF⟩
                        | false =>
                          go_wp2_with fail
                          refine HHK.out.mono ?_
                          rintro e w6 ⟨rfl, rfl⟩
                          go_wp2_with fail
                          refine HHK.out.mono ?_
                          rintro e w6 ⟨rfl, rfl⟩
                          go_wp2_with fail
                          go_roundg (R - (r + 1))
                          case measure => omega
                          case rel => exact ⟨r + 1, rfl, by omega, by go_num, HWF⟩
                  · obtain rfl : r = R := by omega
                    go_wp2_with fail
                    go_roundg (lsv - (k + 1))
                    case measure => omega
                    case rel => exact ⟨k + 1, rfl, by omega, by go_num, HWW⟩
              have f16 : (op == 16) = false := by simpa using h16
              by_cases h19 : op < 19
              · as_aux_lemma =>
                have f19 : decide (op < 19) = true := decide_eq_true h19
                have HGE := Lib.hid (show SU.map (fun (y : Nat) => (y : Int)) = [(k : Int) + 1] from by rw [← HGS.out]; simp [goesL, h15, h16]; omega)
                have HNW := Lib.hid (show SlC ((wr.alloc (.cells #[.int .i64 op, .int .i64 d, .int .i64 xa, .int .i64 xb, .slice o4 l4 c4'] 34)).alloc (.cells [.int .i64 ((k : Int) + 1)].toArray 3)) ((wr.alloc (.cells #[.int .i64 op, .int .i64 d, .int .i64 xa, .int .i64 xb, .slice o4 l4 c4'] 34)).alloc (.cells [.int .i64 ((k : Int) + 1)].toArray 3)).heap.size 1 IntR [(k : Int) + 1] (.slice (some ⟨wr.heap.size + 1, 0, none⟩) 1 1) from intsNew (l := [(k : Int) + 1]) (by simp) (by simp) 3 (by simp [HK.out]) 1 rfl (by omega))
                have HBW := Lib.hid (show Below wr.heap.size wr ((wr.alloc (.cells #[.int .i64 op, .int .i64 d, .int .i64 xa, .int .i64 xb, .slice o4 l4 c4'] 34)).alloc (.cells [.int .i64 ((k : Int) + 1)].toArray 3)) from (Below.one wr _).trans ((Below.one _ _).mono (by simp)))
                have HXO := Lib.hid (HXN.out.alloc (.cells [.int .i64 ((k : Int) + 1)].toArray 3))
                go_wp2_with (at_builtin; refine wpList_append_ints rfl (.tmp 76) (.tmp 79) rfl wr.heap.size _ (.slice none 0 0) [] [(k : Int) + 1] rfl (World.ownsRow_nil _ _ _ _) (some ⟨wr.heap.size + 1, 0, none⟩) 1 1 rfl HNW.out (by simp) (by first | (simp; omega) | simp) ?_)
                intro v' w3 hown hgrow
                have HON : Hid (SlC w3 w3.heap.size 1 IntR (SU.map fun (y : Nat) => (y : Int)) v') := Lib.hid (by rw [HGE.out]; exact rowInts (l := [(k : Int) + 1]) hown (by simp [HK.out]))
                have HW3 := Lib.hid (Below.next HW.out (HBW.out.grown hgrow HBW.out.size (fun g hg => by simp [Value.ownBlock] at hg)))
                have bx : BoxL w3 wr.heap.size 34 [.int .i64 op, .int .i64 d, .int .i64 xa, .int .i64 xb, .slice o4 l4 c4'] := (hgrow.block _ HXO.out.lt (by simp [Value.ownBlock])).trans HXO.out
                have x0 := bx.cell 0 rfl
                have x3 := bx.cell 3 rfl
                have hbxl := bx.lt
                obtain ⟨oo, lo, co, rfl⟩ := HON.out.form
                clear hown hgrow bx HNW HXN HXO e0 e1 e2 e3 e4 r0 r3
                -- where one goes on: lo places
                have HLO := Lib.hid (show lo = SU.length from by rw [HON.out.lens.1, List.length_map])
                have hlo2 : lo ≤ 2 := by rw [HLO.out, ← HSU.out]; exact succs_len _ _
                have hlcap := HON.out.lens.2
                have HW30 := Lib.hid (Below.refl w3.heap.size w3)
                have q2 := (HBX.out.keep HW3.out).cell 2 rfl
                have hq2 := (HBX.out.keep HW3.out).lt
                go_wp2_with fail
                go_loopg [12] R (fun G i wr => ∃ r : Nat, G = R - r ∧ r ≤ R ∧ i = .int .i64 r ∧ Hid (Below w3.heap.size w3 wr))
                case atStart => exact ⟨0, rfl, by omega, rfl, HW30⟩
                case round =>
                  obtain ⟨r, rfl, hr, rfl, HWr⟩ := hrel
                  clear HW30
                  have HWW := Lib.hid (Below.next HW3.out HWr.out)
                  have q2 := (HBX.out.keep HWW.out).cell 2 rfl
                  have q3 := (HBX.out.keep HWW.out).cell 3 rfl
                  have hq2 := (HBX.out.keep HWW.out).lt
                  by_cases hrR : r < R
                  · have HWq0 := Lib.hid (Below.refl wr.heap.size wr)
                    have HW00 := Lib.hid (show ((SU.take 0).any fun t => Live.needB code R r t) = false from by simp)
                    go_wp2_with fail
                    go_loopg [13, 14] lo (fun G c i wq => ∃ (j : Nat) (q : Bool), G = lo - j ∧ j ≤ lo ∧ i = .int .i64 j ∧ c = .bool q ∧ Hid (((SU.take j).any fun t => Live.needB code R r t) = q) ∧ Hid (Below wr.heap.size wr wq))
                    case atStart => exact ⟨0, false, rfl, by omega, rfl, rfl, HW00, HWq0⟩
                    case round => as_aux_lemma =>
                      obtain ⟨j, q, rfl, hj, rfl, rfl, HQ, HWq⟩ := hrel
                      clear HWq0 HW00 q2 q3 hq2
                      have HWA := Lib.hid (Below.next HWr.out HWq.out)
                      have HWB := Lib.hid (Below.next HW3.out HWA.out)
                      have HWC := Lib.hid (Below.next HW2.out HWB.out)
                      have q3 := (HBX.out.keep HWB.out).cell 3 rfl
                      have hq2 := (HBX.out.keep HWB.out).lt
                      by_cases hjl : j < lo
                      · obtain ⟨t, ht⟩ : ∃ t, SU[j]? = some t := ⟨_, List.getElem?_eq_getElem (by rw [← HLO.out]; exact hjl)⟩
                        have htl : t < lsv := HTO.out t (List.mem_of_getElem? ht)
                        obtain ⟨b5, off5, es, ho5, hb5, hel, hecell, hei⟩ := (HON.out.kept HWA.out fun _ _ _ h => h).at (Below.refl _ _) (show (SU.map fun (y : Nat) => (y : Int))[j]? = some (t : Int) from by simp [ht])
                        subst ho5
                        have g0 := hecell 0 (.int .i64 t) (by rw [hei.1]; rfl)
                        rw [Nat.mul_one, Nat.add_zero] at g0
                        obtain ⟨y, hy⟩ : ∃ y, code[t]? = some y := ⟨_, List.getElem?_eq_getElem (by rw [← HM.out]; exact htl)⟩
                        have hbw5 : Below B w wr := (HB2.out.mono hB).trans (HWC.out.mono (by have := HB2.out.size; omega))
                        obtain ⟨b8, off8, cs8, ho8, hb8B, hcl8, hcell8, hins8⟩ := HC.out.at hbw5 hy
                        simp only [Option.some.injEq, Addr.mk.injEq, and_true] at ho8
                        obtain ⟨rfl, rfl⟩ := ho8
                        obtain ⟨b9, off9, cs9, ho9, hb9B, hcl9, hcell9, sl9, rfl, hsl9⟩ := HSV.out.at (HWC.out) (HLG2.out t htl)
                        have cp0 := hcell9 0 _ rfl
                        rw [Nat.mul_one, Nat.add_zero] at cp0
                        have hosv := ho9
                        obtain ⟨oq, lenq, cq, rfl⟩ := hsl9.form
                        have HSL9 := Lib.hid hsl9
                        have hyl := HPS.out y (List.mem_of_getElem? hy)
                        have hyop := HCO2.out.1 y (List.mem_of_getElem? hy)
                        have HND := Lib.hid (Live.needB_at (R := R) (r := r) hy)
                        have HTK := Lib.hid (show SU.take (j + 1) = SU.take j ++ [t] from by rw [List.take_add_one, ht]; rfl)
                        match cs8, hcl8 with
                        | [y0, y1, y2, y3, y4], _ =>
                          have p0 := hcell8 0 _ rfl
                          have p1 := hcell8 1 _ rfl
                          have p2 := hcell8 2 _ rfl
                          have p3 := hcell8 3 _ rfl
                          have p4 := hcell8 4 _ rfl
                          rw [Nat.add_zero] at p0
                          have HNM := Lib.hid (fun (V : World) (hV : V = wr.drew) => named_any y y0 y1 y2 y3 y4 B V (by rw [hV]; exact hins8.kept hbw5.drew) (by rw [hV]; have := hbw5.size; show B ≤ wr.heap.size; omega) (Nat.le_trans hyl (by decide)) hyop.1 hyop.2)
                          obtain ⟨N, hN⟩ : ∃ N, Unt.named y = N := ⟨_, rfl⟩
                          obtain ⟨gd, hgd⟩ : ∃ gd, Unt.gives y = gd := ⟨_, rfl⟩
                          have hNl : N.length ≤ 1000000 := by rw [← hN]; have := named_len y; omega
                          unfold NamedPost at HNM
                          rw [hN, hgd] at HND
                          rw [hN, hgd] at HNM
                          obtain ⟨yop, yd, ya, yb, yl⟩ := y
                          obtain ⟨sl, he, _, _, _, _, hsly⟩ := hins8
                          obtain ⟨oy, ly, cy, rfl⟩ := hsly.form
                          simp only [List.cons.injEq, and_true] at he
                          obtain ⟨rfl, rfl, rfl, rfl, rfl⟩ := he
                          have hpl := cell_lt p0
                          have hg0l := cell_lt g0
                          subst hosv
                          clear hecell hei ht hcell8 hcl8 hcell9 hcl9 hsl9 hsly hy hN hgd ho9 hyl hyop
                          go_upto_region 30 with fail
                          go_cut [15, 16] (fun c dv wx => (∃ on ln cn, c = .slice on ln cn) ∧ dv = .int .i64 gd ∧ SlC wx wx.heap.size 1 IntR N c ∧ Below wr.heap.size wr wx)
                          case first => as_aux_lemma =>
                            go_region_with (go_at_call 29; refine (HNM.out _ rfl).mono ?_; rintro e w5 ⟨sn, rfl, hsn, hb5'⟩; obtain ⟨on, ln, cn, rfl⟩ := hsn.form)
                            all_goals (go_wp2_with fail; go_meet; exact ⟨⟨_, _, _, rfl⟩, rfl, hsn, (Below.refl wr.heap.size wr).drew.trans hb5'⟩)
                          case rest =>
                          obtain ⟨⟨on, ln, cn, rfl⟩, rfl, hsn, hb6⟩ := hcut
                          have HHA := Lib.hid (fun b hb => has16_any N _ r wc.heap.size wc hsn b hb hNl)
                          have HHB := Lib.hid (fun b hb => has16_any (Live.after code R t) _ r w2.heap.size wc (HSL9.out.kept (HWC.out.trans (hb6.mono HWC.out.size)) fun _ _ _ h => h) b hb (Nat.le_trans (Live.after_len _ _ _) (by omega)))
                          have HW6 := Lib.hid (Below.next HWq.out hb6)
                          have cp1 := keepC hb6 cp0
                          have g1 := keepC hb6 g0
                          have hc1 := cell_lt cp1
                          have hg1 := cell_lt g1
                          clear hb6 hsn HNM p0 p1 p2 p3 p4 q3 cp0 g0
                          cases q with
                          | true =>
                            have HQ2 := Lib.hid (show ((SU.take (j + 1)).any fun t => Live.needB code R r t) = true from by rw [HTK.out, List.any_append, HQ.out]; rfl)
                            clear HHA HHB
                            go_wp2_with fail
                            go_roundg (lo - (j + 1))
                            case measure => omega
                            case rel => exact ⟨j + 1, true, rfl, by omega, by go_num, rfl, HQ2, HW6⟩
                          | false =>
                            have HQ3 := Lib.hid (show ((SU.take (j + 1)).any fun t => Live.needB code R r t) = Live.needB code R r t from by rw [HTK.out, List.any_append, HQ.out]; simp)
                            obtain ⟨h1, hh1⟩ : ∃ h1, N.contains (r : Int) = h1 := ⟨_, rfl⟩
                            have HHA2 := Lib.hid (HHA.out h1 hh1)
                            rw [hh1] at HND
                            clear hh1 HHA
                            cases h1 with
                            | true =>
                              have HQ2 := Lib.hid (show ((SU.take (j + 1)).any fun t => Live.needB code R r t) = true from by rw [HQ3.out, HND.out]; rfl)
                              clear HHB
                              go_wp2_with fail
                              refine HHA2.out.mono ?_
                              rintro e w6 ⟨rfl, rfl⟩
                              go_wp2_with fail
                              go_roundg (lo - (j + 1))
                              case measure => omega
                              case rel => exact ⟨j + 1, true, rfl, by omega, by go_num, rfl, HQ2, HW6⟩
                            | false =>
                              by_cases hgr : gd = (r : Int)
                              · have fg : (gd != (r : Int)) = false := by simpa using hgr
                                have HQ2 := Lib.hid (show ((SU.take (j + 1)).any fun t => Live.needB code R r t) = false from by rw [HQ3.out, HND.out, hgr]; simp)
                                clear HHB hgr
                                go_wp2_with fail
                                refine HHA2.out.mono ?_
                                rintro e w6 ⟨rfl, rfl⟩
                                go_wp2_with fail
                                go_roundg (lo - (j + 1))
                                case measure => omega
                                case rel => exact ⟨j + 1, false, rfl, by omega, by go_num, rfl, HQ2, HW6⟩
                              · have fg : (gd != (r : Int)) = true := by simpa using hgr
                                obtain ⟨h2, hh2⟩ : ∃ h2, (Live.after code R t).contains (r : Int) = h2 := ⟨_, rfl⟩
                                have HHB2 := Lib.hid (HHB.out h2 hh2)
                                have HQ2 := Lib.hid (show ((SU.take (j + 1)).any fun t => Live.needB code R r t) = h2 from by rw [HQ3.out, HND.out, hh2]; simp [hgr])
                                clear HHB hgr hh2
                                go_wp2_with fail
                                refine HHA2.out.mono ?_
                                rintro e w6 ⟨rfl, rfl⟩
                                go_wp2_with fail
                                refine HHB2.out.mono ?_
                                rintro e w7 ⟨rfl, rfl⟩
                                go_wp2_with fail
                                go_roundg (lo - (j + 1))
                                case measure => omega
                                case rel => exact ⟨j + 1, h2, rfl, by omega, by go_num, rfl, HQ2, HW6⟩
                      · obtain rfl : j = lo := by omega
                        have HQE := Lib.hid (show (Live.after code R k).contains (r : Int) = q from by
                          have h := HQ.out
                          rw [List.take_of_length_le (by rw [← HLO.out]; exact Nat.le_refl _)] at h
                          rw [← h, ← HSU.out]
                          exact Live.want_all HX.out (fun t ht => by rw [← HM.out]; exact HTO.out t (by rw [← HSU.out]; exact ht)) hrR)
                        obtain ⟨b9, off9, cs9, ho9, hb9B, hcl9, hcell9, sl9, rfl, hsl9⟩ := HSV.out.at (HWC.out) (HLG2.out k hkm)
                        have cp0 := hcell9 0 _ rfl
                        rw [Nat.mul_one, Nat.add_zero] at cp0
                        obtain ⟨oq, lenq, cq, rfl⟩ := hsl9.form
                        have HHK := Lib.hid (has16_any (Live.after code R k) _ r w2.heap.size wr (hsl9.kept HWC.out fun _ _ _ h => h) q HQE.out (Nat.le_trans (Live.after_len _ _ _) (by omega)))
                        have hc1 := cell_lt cp0
                        have HWF := Lib.hid (Below.next HWr.out HWq.out)
                        subst ho9
                        clear hcell9 hcl9 hsl9 HWA HWB HWC
                        cases q with
                        | true =>
                          go_wp2_with fail
                          refine HHK.out.mono ?_
                          rintro e w6 ⟨rfl, rfl⟩
                          go_wp2_with fail
                          refine HHK.out.mono ?_
                          rintro e w6 ⟨rfl, rfl⟩
                          go_wp2_with fail
                          go_roundg (R - (r + 1))
                          case measure => omega
                          case rel => exact ⟨r + 1, rfl, by omega, by go_num, HWF⟩
                        | false =>
                          go_wp2_with fail
                          refine HHK.out.mono ?_
                          rintro e w6 ⟨rfl, rfl⟩
                          go_wp2_with fail
                          refine HHK.out.mono ?_
                          rintro e w6 ⟨rfl, rfl⟩
                          go_wp2_with fail
                          go_roundg (R - (r + 1))
                          case measure => omega
                          case rel => exact ⟨r + 1, rfl, by omega, by go_num, HWF⟩
                  · obtain rfl : r = R := by omega
                    go_wp2_with fail
                    go_roundg (lsv - (k + 1))
                    case measure => omega
                    case rel => exact ⟨k + 1, rfl, by omega, by go_num, HWW⟩
              · as_aux_lemma =>
                have f19 : decide (op < 19) = false := decide_eq_false h19
                have HGE := Lib.hid (show SU.map (fun (y : Nat) => (y : Int)) = [] from by rw [← HGS.out]; simp [goesL, h15, h16]; omega)
                go_upto_region 23 with fail
                obtain ⟨w3, hw3⟩ : ∃ w3, (wr.alloc (.cells #[.int .i64 op, .int .i64 d, .int .i64 xa, .int .i64 xb, .slice o4 l4 c4'] 34)) = w3 := ⟨_, rfl⟩
                have HW3 := Lib.hid (Below.next HW.out (show Below wr.heap.size wr w3 from by rw [← hw3]; exact Below.one wr _))
                have HON : Hid (SlC w3 w3.heap.size 1 IntR (SU.map fun (y : Nat) => (y : Int)) (.slice none 0 0)) := Lib.hid (by rw [HGE.out]; exact ints_nil _ _)
                rw [hw3]
                clear hw3 HXN e0 e1 e2 e3 e4 r0 r3
                -- where one goes on: 0 places
                have HLO := Lib.hid (show 0 = SU.length from by rw [HON.out.lens.1, List.length_map])
                have hlo2 : 0 ≤ 2 := by rw [HLO.out, ← HSU.out]; exact succs_len _ _
                have hlcap := HON.out.lens.2
                have HW30 := Lib.hid (Below.refl w3.heap.size w3)
                have q2 := (HBX.out.keep HW3.out).cell 2 rfl
                have hq2 := (HBX.out.keep HW3.out).lt
                go_wp2_with fail
                go_loopg [12] R (fun G i wr => ∃ r : Nat, G = R - r ∧ r ≤ R ∧ i = .int .i64 r ∧ Hid (Below w3.heap.size w3 wr))
                case atStart => exact ⟨0, rfl, by omega, rfl, HW30⟩
                case round =>
                  obtain ⟨r, rfl, hr, rfl, HWr⟩ := hrel
                  clear HW30
                  have HWW := Lib.hid (Below.next HW3.out HWr.out)
                  have q2 := (HBX.out.keep HWW.out).cell 2 rfl
                  have q3 := (HBX.out.keep HWW.out).cell 3 rfl
                  have hq2 := (HBX.out.keep HWW.out).lt
                  by_cases hrR : r < R
                  · have HWq0 := Lib.hid (Below.refl wr.heap.size wr)
                    have HW00 := Lib.hid (show ((SU.take 0).any fun t => Live.needB code R r t) = false from by simp)
                    go_wp2_with fail
                    go_loopg [13, 14] 0 (fun G c i wq => ∃ (j : Nat) (q : Bool), G = 0 - j ∧ j ≤ 0 ∧ i = .int .i64 j ∧ c = .bool q ∧ Hid (((SU.take j).any fun t => Live.needB code R r t) = q) ∧ Hid (Below wr.heap.size wr wq))
                    case atStart => exact ⟨0, false, rfl, by omega, rfl, rfl, HW00, HWq0⟩
                    case round => as_aux_lemma =>
                      obtain ⟨j, q, rfl, hj, rfl, rfl, HQ, HWq⟩ := hrel
                      clear HWq0 HW00 q2 q3 hq2
                      have HWA := Lib.hid (Below.next HWr.out HWq.out)
                      have HWB := Lib.hid (Below.next HW3.out HWA.out)
                      have HWC := Lib.hid (Below.next HW2.out HWB.out)
                      have q3 := (HBX.out.keep HWB.out).cell 3 rfl
                      have hq2 := (HBX.out.keep HWB.out).lt
                      by_cases hjl : j < 0
                      · omega
                      · obtain rfl : j = 0 := by omega
                        have HQE := Lib.hid (show (Live.after code R k).contains (r : Int) = q from by
                          have h := HQ.out
                          rw [List.take_of_length_le (by rw [← HLO.out]; exact Nat.le_refl _)] at h
                          rw [← h, ← HSU.out]
                          exact Live.want_all HX.out (fun t ht => by rw [← HM.out]; exact HTO.out t (by rw [← HSU.out]; exact ht)) hrR)
                        obtain ⟨b9, off9, cs9, ho9, hb9B, hcl9, hcell9, sl9, rfl, hsl9⟩ := HSV.out.at (HWC.out) (HLG2.out k hkm)
                        have cp0 := hcell9 0 _ rfl
                        rw [Nat.mul_one, Nat.add_zero] at cp0
                        obtain ⟨oq, lenq, cq, rfl⟩ := hsl9.form
                        have HHK := Lib.hid (has16_any (Live.after code R k) _ r w2.heap.size wr (hsl9.kept HWC.out fun _ _ _ h => h) q HQE.out (Nat.le_trans (Live.after_len _ _ _) (by omega)))
                        have hc1 := cell_lt cp0
                        have HWF := Lib.hid (Below.next HWr.out HWq.out)
                        subst ho9
                        clear hcell9 hcl9 hsl9 HWA HWB HWC
                        cases q with
                        | true =>
                          go_wp2_with fail
                          refine HHK.out.mono ?_
                          rintro e w6 ⟨rfl, rfl⟩
                          go_wp2_with fail
                          refine HHK.out.mono ?_
                          rintro e w6 ⟨rfl, rfl⟩
                          go_wp2_with fail
                          go_roundg (R - (r + 1))
                          case measure => omega
                          case rel => exact ⟨r + 1, rfl, by omega, by go_num, HWF⟩
                        | false =>
                          go_wp2_with fail
                          refine HHK.out.mono ?_
                          rintro e w6 ⟨rfl, rfl⟩
                          go_wp2_with fail
                          refine HHK.out.mono ?_
                          rintro e w6 ⟨rfl, rfl⟩
                          go_wp2_with fail
                          go_roundg (R - (r + 1))
                          case measure => omega
                          case rel => exact ⟨r + 1, rfl, by omega, by go_num, HWF⟩
                  · obtain rfl : r = R := by omega
                    go_wp2_with fail
                    go_roundg (lsv - (k + 1))
                    case measure => omega
                    case rel => exact ⟨k + 1, rfl, by omega, by go_num, HWW⟩
          · obtain rfl : k = lsv := by omega
            have HB5 := Lib.hid (show Below w.heap.size w wr from HB2.out.trans (HW2W.out.mono HB2.out.size))
            go_wp2_with fail
            go_ret
            exact ⟨rfl, HB5.out⟩
    · have f0 : (E != 0) = true := by simpa using hE0
      have HA0 := Lib.hid (show Live.afterL u n = [] from by rw [Live.afterL, if_neg (by rw [hE]; exact hE0)])
      rw [HA0.out] at HAF
      clear hE
      go_wp2_with fail
      refine HAF.out.mono ?_
      rintro e w2 ⟨sv, rfl, hsv, hb2⟩
      obtain ⟨osv, lsv, csv, rfl⟩ := hsv.form
      obtain rfl : lsv = 0 := hsv.lens.1
      clear hsv
      have HB2 := Lib.hid (Below.next HB1.out hb2)
      clear hb2 HAF
      go_wp2_with fail
      go_ret
      exact ⟨rfl, HB2.out⟩
end Go.Proofs.YtdlhocghiaghfaaGreatDoor

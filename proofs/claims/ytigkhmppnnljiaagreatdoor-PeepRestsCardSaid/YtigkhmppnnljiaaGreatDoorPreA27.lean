/-
  What the proofs lean on: RefL.
-/
import Derived.Deep.DeepCutAuto
import Derived.Deep.RegionLaw
import Derived.Deep.AppendLies
import Derived.Test.YtigkhmppnnljiaaGreatDoorPreA10
import Derived.Test.YtigkhmppnnljiaaGreatDoorPreA11
import Derived.Test.YtigkhmppnnljiaaGreatDoorPreA14
import Derived.Test.YtigkhmppnnljiaaGreatDoorPreA19
import Derived.Test.YtigkhmppnnljiaaGreatDoorPreA20
import Derived.Test.YtigkhmppnnljiaaGreatDoorPreA23
import Derived.Test.YtigkhmppnnljiaaGreatDoorPreA24
set_option maxRecDepth 100000
set_option maxHeartbeats 16000000
namespace Go.Proofs.YtigkhmppnnljiaaGreatDoor
section
open Go.RowKit
end
section
open Go.RowKit
namespace Live
open Unt Peep
end Live
theorem info_bool : (Tryz.prog.info? 4).map (fun i => (i.zero, i.size, i.bytes)) = some (some (.bool false), 1, 1) := by kernel_rfl
end
section
open Go.RowKit
end
section
open Go.RowKit
theorem cell_q {W V : World} {a : Addr} {v : Value} (h : V = W.drew) (hc : W.cell? a = some v) : V.cell? a = some v := by rw [h]; exact hc
theorem rcheck_any (u : Unt) (v : Value) (B : Nat) (w : World) (hv : UntR w B u v) (hB : B ≤ w.heap.size) (hL : ∀ p ∈ u.procs, p.code.length ≤ 50000 → ∀ x ∈ p.code, x.l.length ≤ 1000000) :
  Calls Tryz.prog 13 #[v] w fun e w' => e = .returned (.int .i64 u.err) ∧ Below w.heap.size w w' := by
 obtain ⟨cv, pv, rfl, hc, hp⟩ := hv
 obtain ⟨E, hE⟩ : ∃ E, u.err = E := ⟨_, rfl⟩
 rw [hE]
 obtain ⟨op, np, cp, rfl, hnp, hcapp, hmaxp⟩ := hp.slice
 obtain ⟨ok, nk, ck, rfl, hnk, hcapk, hmaxk, hck⟩ := hc
 have HCK := Lib.hid hck
 have HP := Lib.hid hp
 have HE := Lib.hid hE
 have HNP := Lib.hid hnp
 have HNK := Lib.hid hnk
 have HLS := Lib.hid hL
 clear hp hE hnp hnk hck hL
 have HNO := Lib.hid (show (∀ h : u.okB = false, E = 5) from fun h => by rw [← HE.out, err_no h])
 by_cases c1 : np < 1
 ·obtain rfl : E = 5 := HNO.out (by rw [Unt.okB, ← HNP.out]; simp; omega)
  obtain rfl : np = 0 := by omega
  go_enter Tryz.func13, Tryz.ntmps13
  go_wp2_with fail
  go_ret
  exact ⟨rfl, Below.one _ _⟩
 by_cases c2 : 1000 < np
 ·obtain rfl : E = 5 := HNO.out (by rw [Unt.okB, ← HNP.out]; simp; omega)
  go_enter Tryz.func13, Tryz.ntmps13
  go_wp2_with fail
  go_ret
  exact ⟨rfl, Below.one _ _⟩
 have c1' : ¬ (np : Int) < 1 := by omega
 obtain ⟨W1, hW1⟩ : ∃ W1, w.alloc (.cells #[.slice ok nk ck, .slice op np cp] 25) = W1 := ⟨_, rfl⟩
 have HB1 := Lib.hid (show Below w.heap.size w W1 from by rw [← hW1]; exact Below.one w _)
 have HU := Lib.hid (show BoxL W1 w.heap.size 25 [.slice ok nk ck, .slice op np cp] from by rw [← hW1]; exact BoxL.new rfl _ _)
 have HW1 := Lib.hid hW1
 have HW0 := Lib.hid (Below.refl W1.heap.size W1)
 have HA0 := Lib.hid (show (u.consts.take 0).all (fun x => Dat.right x 0) = true from rfl)
 clear hW1
 go_enter Tryz.func13, Tryz.ntmps13
 go_wp2_with fail
 rw [HW1.out]
 go_loopg [3] nk (fun G i wr => ∃ j : Nat, G = nk - j ∧ j ≤ nk ∧ i = .int .i64 j ∧ Hid ((u.consts.take j).all (fun x => Dat.right x 0) = true) ∧ Hid (Below W1.heap.size W1 wr))
 case atStart => exact ⟨0, rfl, by omega, rfl, HA0, HW0⟩
 case round =>
  obtain ⟨j, rfl, hj, rfl, HA, HW⟩ := hrel
  clear HW0 HA0
  have U0 := (HU.out.keep HW.out).cell 0 rfl
  have U1 := (HU.out.keep HW.out).cell 1 rfl
  have hul := (HU.out.keep HW.out).lt
  have HWW := Lib.hid (Below.next HB1.out HW.out)
  by_cases hjl : j < nk
  ·obtain ⟨x, hx⟩ : ∃ x, u.consts[j]? = some x := ⟨_, List.getElem?_eq_getElem (by rw [← HNK.out]; exact hjl)⟩
   obtain ⟨b, off, k', n', d', s', l', o', len', cap', ho, hxe, e0, e1, e2, e3, e4, er⟩ := part_at2 HCK.out (HWW.out.mono hB) hx
   have hbl := cell_lt e0
   obtain ⟨r, hr⟩ : ∃ r, Dat.right x 0 = r := ⟨_, rfl⟩
   have HR := Lib.hid (rRight_to x (.agg #[.int .i64 k', .int .i64 n', .int .i64 d', .string s', .slice o' len' cap']) B wr r hr (by rw [hxe]; exact er) (by have := HWW.out.size; omega))
   have HX := Lib.hid hx
   have HRR := Lib.hid hr
   subst ho
   clear hx hr er hxe
   go_wp2_with fail
   refine HR.out.mono ?_
   rintro e w2 ⟨rfl, hb2⟩
   have HW2 := Lib.hid (Below.next HW.out hb2)
   clear hb2 HR e0 e1 e2 e3 e4
   cases r with
   | false =>
    obtain rfl : E = 5 := HNO.out (by
     have h2 : u.consts.all (fun x => Dat.right x 0) = false := by
      rw [List.all_eq_false]
      exact ⟨x, List.mem_of_getElem? HX.out, by rw [HRR.out]; simp⟩
     rw [Unt.okB, h2]; simp)
    go_wp2_with fail
    go_ret
    exact ⟨rfl, Below.next HB1.out HW2.out⟩
   | true =>
    have HA2 := Lib.hid (show (u.consts.take (j + 1)).all (fun x => Dat.right x 0) = true from by
     rw [List.take_add_one, HX.out, List.all_append, HA.out]
     simp [HRR.out])
    go_wp2_with fail
    go_roundg (nk - (j + 1))
    case measure => omega
    case rel => exact ⟨j + 1, rfl, by omega, by go_num, HA2, HW2⟩
  ·obtain rfl : j = nk := by omega
   have HOK := Lib.hid (show u.okB = Unt.procsB j np u.procs 0 from by
    have h2 := HA.out
    rw [List.take_of_length_le (by rw [← HNK.out]; exact Nat.le_refl _)] at h2
    rw [Unt.okB, h2, ← HNP.out, ← HNK.out, decide_eq_true (show 1 ≤ (np : Int) by omega), decide_eq_true (show (np : Int) ≤ 1000 by omega)]; simp)
   clear hjl
   go_wp2_with fail
   go_loopg [4, 5] np (fun G a i wq => ∃ (t : Nat) (all : Int), G = np - t ∧ t ≤ np ∧ a = .int .i64 all ∧ i = .int .i64 t ∧ 0 ≤ all ∧ all ≤ 50000 ∧ Hid (Unt.procsB j np u.procs 0 = Unt.procsB j np (u.procs.drop t) all) ∧ Hid (Below W1.heap.size W1 wq))
   case atStart => exact ⟨0, 0, rfl, by omega, rfl, rfl, by omega, by omega, rfl, HW⟩
   case round =>
    obtain ⟨t, all, rfl, ht, rfl, rfl, ha0, ha1, HS, HWq⟩ := hrel
    clear HW HWW U0 U1 hul
    have U0 := (HU.out.keep HWq.out).cell 0 rfl
    have U1 := (HU.out.keep HWq.out).cell 1 rfl
    have hul := (HU.out.keep HWq.out).lt
    have HWW := Lib.hid (Below.next HB1.out HWq.out)
    by_cases htl : t < np
    ·obtain ⟨p, hx⟩ : ∃ p, u.procs[t]? = some p := ⟨_, List.getElem?_eq_getElem (by rw [← HNP.out]; exact htl)⟩
     obtain ⟨b1, off1, cs, ho1, hbB, hcl, hcell, hpr⟩ := HP.out.at (HWW.out.mono hB) hx
     subst ho1
     have HSTEP := Lib.hid (HS.out.trans (procsB_step hx))
     have HLP := Lib.hid (HLS.out p (List.mem_of_getElem? hx))
     obtain ⟨args, rest, regs, code, alive⟩ := p
     obtain ⟨sl, al, rfl, hbargs, hbregs, hcode, halive⟩ := hpr
     obtain ⟨oc, n, cc, rfl, hn, hcapc, hmaxc⟩ := hcode.slice
     obtain ⟨oa, la, ca, rfl⟩ := halive.form
     dsimp only at hn hbargs hbregs HSTEP hcode HLP
     have e0 := hcell 0 _ rfl
     have e1 := hcell 1 _ rfl
     have e2 := hcell 2 _ rfl
     have e3 := hcell 3 _ rfl
     have e4 := hcell 4 _ rfl
     rw [Nat.add_zero] at e0
     have HN := Lib.hid hn
     have HCODE := Lib.hid hcode
     have hbl1 := cell_lt e0
     clear hx hcell hcl hcode halive hn
     have HLN := Lib.hid (show (code.length : Int) = n from by rw [HN.out])
     obtain ⟨q1, hq1⟩ : ∃ q1, (!Unt.headB ⟨args, rest, regs, code, alive⟩) = q1 := ⟨_, rfl⟩
     have HQ1 := Lib.hid hq1
     clear hq1
     obtain ⟨W2, hW2⟩ : ∃ W2, wr.alloc (.cells #[.int .i64 args, .bool rest, .int .i64 regs, .slice oc n cc, .slice oa la ca] 31) = W2 := ⟨_, rfl⟩
     have HPB := Lib.hid (show BoxL W2 wr.heap.size 31 [.int .i64 args, .bool rest, .int .i64 regs, .slice oc n cc, .slice oa la ca] from by rw [← hW2]; exact BoxL.new rfl _ _)
     have HWW2 := Lib.hid (show Below w.heap.size w W2 from Below.next HWW.out (by rw [← hW2]; exact Below.one wr _))
     have HWQ2 := Lib.hid (show Below W1.heap.size W1 W2 from Below.next HWq.out (by rw [← hW2]; exact Below.one wr _))
     have HW2E := Lib.hid hW2
     clear hW2
     go_upto_region 13 with fail
     rw [HW2E.out]
     have q0 := HPB.out.cell 0 rfl
     have qq1 := HPB.out.cell 1 rfl
     have q2 := HPB.out.cell 2 rfl
     have q3 := HPB.out.cell 3 rfl
     have hpl := HPB.out.lt
     clear e0 e1 e2 e3 e4 U0 U1 hul
     go_cut [80] (fun c wx => c = .bool q1 ∧ W2 = wx)
     case first => as_aux_lemma =>
      by_cases h1 : args < 0
      ·obtain rfl : q1 = true := by rw [← HQ1.out]; simp [Unt.headB, h1]
       have d1 : decide (args < 0) = true := decide_eq_true h1
       go_wp2_with fail
       go_meet
       exact ⟨rfl, rfl⟩
      have d1 : decide (args < 0) = false := decide_eq_false h1
      by_cases h2 : regs < args
      ·obtain rfl : q1 = true := by rw [← HQ1.out]; simp [Unt.headB, h2]
       have d2 : decide (regs < args) = true := decide_eq_true h2
       go_wp2_with fail
       go_meet
       exact ⟨rfl, rfl⟩
      have d2 : decide (regs < args) = false := decide_eq_false h2
      by_cases h3 : 20000 < regs
      ·obtain rfl : q1 = true := by rw [← HQ1.out]; simp [Unt.headB, h3]
       have d3 : decide (20000 < regs) = true := decide_eq_true h3
       go_wp2_with fail
       go_meet
       exact ⟨rfl, rfl⟩
      have d3 : decide (20000 < regs) = false := decide_eq_false h3
      by_cases h4 : rest = true ∧ args = 0
      ·obtain ⟨rfl, rfl⟩ := h4
       obtain rfl : q1 = true := by rw [← HQ1.out]; simp [Unt.headB]
       go_wp2_with fail
       go_meet
       exact ⟨rfl, rfl⟩
      by_cases h5 : n = 0
      ·subst h5
       obtain rfl : q1 = true := by rw [← HQ1.out]; have := HLN.out; simp [Unt.headB, this]
       cases rest with
       | true =>
        have h4' : (args == 0) = false := by simpa using fun h => h4 ⟨rfl, h⟩
        go_wp2_with fail
        go_meet
        exact ⟨rfl, rfl⟩
       | false =>
        go_wp2_with fail
        go_meet
        exact ⟨rfl, rfl⟩
      have d5 : ((n : Int) == 0) = false := by simpa using h5
      obtain rfl : q1 = decide ((50000 : Int) < (n : Int)) := by
       have hra : (rest && decide (args = 0)) = false := by cases rest <;> simp; intro h; exact h4 ⟨rfl, h⟩
       rw [← HQ1.out]
       simp only [Unt.headB, decide_eq_false h1, decide_eq_false h2, decide_eq_false h3, hra, HLN.out]; simp; omega
      cases rest with
      | true =>
       have h4' : (args == 0) = false := by simpa using fun h => h4 ⟨rfl, h⟩
       go_wp2_with fail
       go_meet
       exact ⟨rfl, rfl⟩
      | false =>
       go_wp2_with fail
       go_meet
       exact ⟨rfl, rfl⟩
     case rest =>
     obtain ⟨rfl, rfl⟩ := hcut
     have hpl := HPB.out.lt
     cases q1 with
     | true =>
      obtain rfl : E = 5 := HNO.out (by
       have h : Unt.headB ⟨args, rest, regs, code, alive⟩ = false := by simpa using HQ1.out
       rw [HOK.out, HSTEP.out, h]; rfl)
      go_wp2_with fail
      go_ret
      exact ⟨rfl, HWW2.out⟩
     | false =>
      have HH := Lib.hid (show Unt.headB ⟨args, rest, regs, code, alive⟩ = true from by simpa using HQ1.out)
      have hh := HH.out
      simp only [Unt.headB, Bool.not_eq_true', Bool.or_eq_false_iff, decide_eq_false_iff_not] at hh
      obtain ⟨hh1, hh2, hh3, _, hh5, hh6⟩ := hh
      rw [HLN.out] at hh5 hh6
      have hn1 : 1 ≤ n := by omega
      have hn5 : n ≤ 50000 := by omega
      have hreg0 : 0 ≤ regs := by omega
      obtain ⟨x, hx⟩ : ∃ x, code[n - 1]? = some x := ⟨_, List.getElem?_eq_getElem (by rw [← HN.out]; omega)⟩
      obtain ⟨bc, offc, ds, hoc, hbc, hdl, hdcell, hins⟩ := HCODE.out.at (HWW2.out.mono hB) hx
      subst hoc
      obtain ⟨kk, dd, aa, bb, ll⟩ := x
      obtain ⟨sl, rfl, hbk, _, _, _, _⟩ := hins
      have k0 := hdcell 0 _ rfl
      rw [Nat.add_zero] at k0
      dsimp only at k0 hbk
      have HLO := Lib.hid (show Unt.lastOp code = kk from lastOp_at HN.out hx)
      have hkl := cell_lt k0
      obtain ⟨q2, hq2⟩ : ∃ q2, (decide ((50000 : Int) < all + n) || !Unt.lastB kk) = q2 := ⟨_, rfl⟩
      have HQ2 := Lib.hid hq2
      clear hx hdcell hdl hq2 hh1 hh2 hh3 hh5 hh6
      go_upto_region 17 with fail
      go_cut [108] (fun c wx => c = .bool q2 ∧ W2 = wx)
      case first => as_aux_lemma =>
       by_cases h7 : 50000 < all + n
       ·obtain rfl : q2 = true := by rw [← HQ2.out]; simp [h7]
        have d7 : decide ((50000 : Int) < all + n) = true := decide_eq_true h7
        go_wp2_with fail
        go_meet
        exact ⟨rfl, rfl⟩
       have d7 : decide ((50000 : Int) < all + n) = false := decide_eq_false h7
       by_cases h15 : kk = 15
       ·subst h15
        obtain rfl : q2 = false := by rw [← HQ2.out, d7]; rfl
        go_wp2_with fail
        go_meet
        exact ⟨rfl, rfl⟩
       have e15 : (kk != 15) = true := by simpa using h15
       by_cases h19 : kk < 19
       ·have e19 : decide (kk < 19) = true := decide_eq_true h19
        obtain rfl : q2 = true := by rw [← HQ2.out, d7]; simp [Unt.lastB, h15]; omega
        go_wp2_with fail
        go_meet
        exact ⟨rfl, rfl⟩
       have e19 : decide (kk < 19) = false := decide_eq_false h19
       obtain rfl : q2 = decide (22 < kk) := by
        rw [← HQ2.out, d7, Bool.eq_iff_iff]; simp [Unt.lastB, h15]; omega
       go_wp2_with fail
       go_meet
       exact ⟨rfl, rfl⟩
      case rest =>
      obtain ⟨rfl, rfl⟩ := hcut
      have HEND3 := Lib.hid (show (∀ h : q2 = true, E = 5) from fun h => HNO.out (by
       have h1 := HQ2.out
       rw [h, Bool.or_eq_true] at h1
       rw [HOK.out, HSTEP.out, HLN.out, HLO.out, HH.out]
       rcases h1 with h1 | h1
       ·rw [show decide (all + (n : Int) ≤ 50000) = false from decide_eq_false (by simpa using h1)]; simp
       ·rw [show Unt.lastB kk = false from by simpa using h1]; simp))
      cases q2 with
      | true =>
       obtain rfl : E = 5 := HEND3.out rfl
       go_wp2_with fail
       go_ret
       exact ⟨rfl, HWW2.out⟩
      | false =>
       have HQ3 := Lib.hid (show all + n ≤ 50000 ∧ Unt.lastB kk = true from by
        have h1 := HQ2.out
        rw [Bool.or_eq_false_iff] at h1
        have h2 := of_decide_eq_false h1.1
        exact ⟨by omega, by simpa using h1.2⟩)
       have hq31 := HQ3.out.1
       have HEND4 := Lib.hid (show (∀ h : code.all (fun x => Unt.fits x regs n np j) = false, E = 5) from fun h => HNO.out (by
        rw [HOK.out, HSTEP.out, HLN.out, HLO.out, HH.out, HQ3.out.2, h]; simp))
       have HZ0 := Lib.hid (show (code.take 0).all (fun x => Unt.fits x regs n np j) = true from rfl)
       have HZW := Lib.hid (Below.refl W2.heap.size W2)
       clear k0 hkl
       go_wp2_with fail
       go_loopg [8] n (fun G i ws => ∃ z : Nat, G = n - z ∧ z ≤ n ∧ i = .int .i64 z ∧ Hid ((code.take z).all (fun x => Unt.fits x regs n np j) = true) ∧ Hid (Below W2.heap.size W2 ws))
       case atStart => exact ⟨0, rfl, by omega, rfl, HZ0, HZW⟩
       case round =>
        obtain ⟨z, rfl, hz, rfl, HZ, HWs⟩ := hrel
        clear HZ0 HZW q0 qq1 q2 q3 hpl
        have q0 := (HPB.out.keep HWs.out).cell 0 rfl
        have qq1 := (HPB.out.keep HWs.out).cell 1 rfl
        have q2 := (HPB.out.keep HWs.out).cell 2 rfl
        have q3 := (HPB.out.keep HWs.out).cell 3 rfl
        have q4 := (HPB.out.keep HWs.out).cell 4 rfl
        have hpl := (HPB.out.keep HWs.out).lt
        have HWW3 := Lib.hid (Below.next HWW2.out HWs.out)
        have HWQ3 := Lib.hid (Below.next HWQ2.out HWs.out)
        have U0 := (HU.out.keep HWQ3.out).cell 0 rfl
        have U1 := (HU.out.keep HWQ3.out).cell 1 rfl
        have hul := (HU.out.keep HWQ3.out).lt
        by_cases hzn : z < n
        ·obtain ⟨y, hy⟩ : ∃ y, code[z]? = some y := ⟨_, List.getElem?_eq_getElem (by rw [← HN.out]; exact hzn)⟩
         obtain ⟨b7, off7, cs7, ho7, hb7, hcl7, hcell7, hins7⟩ := HCODE.out.at (HWW3.out.mono hB) hy
         simp only [Option.some.injEq, Addr.mk.injEq, and_true] at ho7
         obtain ⟨rfl, rfl⟩ := ho7
         have hyl := HLP.out (by rw [← HN.out]; exact hn5) y (List.mem_of_getElem? hy)
         obtain ⟨r, hr⟩ : ∃ r, Unt.fits y regs n np j = r := ⟨_, rfl⟩
         have HR := Lib.hid hr
         have HY := Lib.hid hy
         match cs7, hcl7 with
         | [y0, y1, y2, y3, y4], _ =>
          have p0 := hcell7 0 _ rfl
          have p1 := hcell7 1 _ rfl
          have p2 := hcell7 2 _ rfl
          have p3 := hcell7 3 _ rfl
          have p4 := hcell7 4 _ rfl
          rw [Nat.add_zero] at p0
          obtain ⟨yo, yd, ya, yb, yl⟩ := y
          obtain ⟨sy, he, g1, g2, g3, g4, hsy⟩ := hins7
          obtain ⟨oy, ly, cy, rfl⟩ := hsy.form
          simp only [List.cons.injEq, and_true] at he
          obtain ⟨rfl, rfl, rfl, rfl, rfl⟩ := he
          dsimp only at g1 g2 g3 g4 hyl
          have hIN := fun (V : World) (hV : V = wr.drew) => ins_to yo yd ya yb yl oy ly cy args regs rest (some ⟨bc, offc, none⟩) oa ok (some ⟨b1, off1, none⟩) n cc la ca j ck np cp B V g1 g2 g3 g4 (hsy.kept (by rw [hV]; exact (HWW3.out.mono hB).drew) fun _ _ _ h => h) (by rw [hV]; have := HWW3.out.size; show B ≤ wr.heap.size; omega) hyl r (by rw [Unt.ins_fits _ _ _ _ _ hreg0]; exact hr)
          have HIN := Lib.hid hIN
          have hpl7 := cell_lt p0
          clear hcell7 hcl7 hsy hy hr hIN
          go_upto_region 22 with fail
          refine wp_region_quiet_class (fun V => V = wr.drew) 7 (by kernel_rfl) (by kernel_rfl) rfl ?_
          intro T _ Wd HWd HWd2
          have m0 := fun s => cell_q (HWd s) p0
          have m1 := fun s => cell_q (HWd s) p1
          have m2 := fun s => cell_q (HWd s) p2
          have m3 := fun s => cell_q (HWd s) p3
          have m4 := fun s => cell_q (HWd s) p4
          have r0 := fun s => cell_q (HWd s) q0
          have r1 := fun s => cell_q (HWd s) qq1
          have r2 := fun s => cell_q (HWd s) q2
          have r3 := fun s => cell_q (HWd s) q3
          have r4 := fun s => cell_q (HWd s) q4
          have s0 := fun s => cell_q (HWd s) U0
          have s1 := fun s => cell_q (HWd s) U1
          have HWH := Lib.hid HWd
          clear HWd HWd2
          simp only [List.take_succ_cons, List.take_zero, List.drop_succ_cons, List.drop_zero]
          repeat (go_big_quiet_step (fail))
          refine wpQuiet_nil ?_
          intro s
          go_wp2_with fail
          refine (HIN.out _ (HWH.out s)).mono ?_
          rintro e w5 ⟨rfl, hb5'⟩
          have hb6 : Below wr.heap.size wr w5 := by rw [HWH.out s] at hb5'; exact (Below.refl wr.heap.size wr).drew.trans hb5'
          have HW5 := Lib.hid (Below.next HWs.out hb6)
          clear hb5' hb6 HIN m0 m1 m2 m3 m4 r0 r1 r2 r3 r4 s0 s1 p0 p1 p2 p3 p4
          cases r with
          | false =>
           obtain rfl : E = 5 := HEND4.out (by
            rw [List.all_eq_false]
            exact ⟨_, List.mem_of_getElem? HY.out, by rw [HR.out]; simp⟩)
           go_wp2_with fail
           go_ret
           exact ⟨rfl, Below.next HWW2.out HW5.out⟩
          | true =>
           have HZ2 := Lib.hid (show (code.take (z + 1)).all (fun x => Unt.fits x regs n np j) = true from by
            rw [List.take_add_one, HY.out, List.all_append, HZ.out]
            simp [HR.out])
           go_wp2_with fail
           go_roundg (n - (z + 1))
           case measure => omega
           case rel => exact ⟨z + 1, rfl, by omega, by go_num, HZ2, HW5⟩
        ·obtain rfl : z = n := by omega
         have HPN := Lib.hid (show Unt.procsB j np u.procs 0 = Unt.procsB j np (u.procs.drop (t + 1)) (all + z) from by
          have h1 := HZ.out
          rw [List.take_of_length_le (by rw [← HN.out]; exact Nat.le_refl _)] at h1
          rw [HSTEP.out, HLN.out, HLO.out, HH.out, HQ3.out.2, h1, decide_eq_true HQ3.out.1]; simp)
         go_wp2_with fail
         go_roundg (np - (t + 1))
         case measure => omega
         case rel => exact ⟨t + 1, all + z, rfl, by omega, rfl, by go_num, by omega, by omega, HPN, HWQ3⟩
    ·obtain rfl : t = np := by omega
     have HT := Lib.hid (show u.okB = true from by rw [HOK.out, HS.out, List.drop_eq_nil_of_le (by rw [← HNP.out]; exact Nat.le_refl _)]; rfl)
     obtain rfl : E = 0 := by rw [← HE.out, err_ok HT.out]
     go_wp2_with fail
     go_ret
     exact ⟨rfl, HWW.out⟩
end
section
open Go.RowKit
end
section
open Go.RowKit
end
section
open Go.RowKit
end
end Go.Proofs.YtigkhmppnnljiaaGreatDoor

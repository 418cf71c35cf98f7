/-
  What the proofs lean on: FlW.
-/
import Derived.Test.YtgbibibmpoekiaaGreatDoorFolA40
set_option maxRecDepth 100000
set_option maxHeartbeats 16000000
namespace Go.Proofs.YtgbibibmpoekiaaGreatDoor
section
open Go Go.RowKit
theorem repC_front {w : World} {B b : Nat} : ∀ {l m : List Dat} {off : Nat}, RepC w B (l ++ m) b off → RepC w B l b off
 | [], _, _, _ => by rw [RepC]; trivial
 | x :: l, m, off, h => by
  rw [List.cons_append, RepC] at h
  rw [RepC]
  exact ⟨h.1, repC_front h.2⟩
theorem RepS.front {w : World} {B : Nat} {l m : List Dat} {o : Option Addr} {len cap k : Nat} (h : RepS w B (l ++ m) (.slice o len cap)) (hk : k = l.length) : RepS w B l (.slice o k cap) ∧ k ≤ len ∧ len ≤ cap := by
 obtain ⟨o2, l2, c2, he, h1, h2, h3, h4⟩ := h
 simp only [Value.slice.injEq] at he
 obtain ⟨rfl, rfl, rfl⟩ := he
 have hle : k ≤ len := by rw [h1, hk]; simp
 refine ⟨⟨o, k, cap, rfl, hk, by omega, h3, ?_⟩, hle, h2⟩
 cases o with
 | none => exact ⟨(List.append_eq_nil_iff.1 h4.1).1, h4.2⟩
 | some a => exact ⟨fun hl => h4.1 (fun e => hl (List.append_eq_nil_iff.1 e).1), repC_front h4.2⟩
theorem alike_selfL (x : Dat) : Dat.alike x x = true := by
 induction x using Dat.ind with
 | h k n d s l ih =>
  have key : ∀ l : List Dat, (∀ y ∈ l, Dat.alike y y = true) → Dat.alikeL l l = true := fun l => by
   induction l with
   | nil => intro _; rfl
   | cons x l ihl => intro h; rw [Dat.alikeL, h x (by simp), ihl fun y hy => h y (List.mem_cons_of_mem _ hy)]; rfl
  rw [Dat.alike, key l ih]
  simp
theorem all2_self (l : List Dat) : all2 Dat.alike l l = true := by
 rw [← alikeL_all2]
 induction l with
 | nil => rfl
 | cons x l ih => rw [Dat.alikeL, alike_selfL, ih]; rfl
theorem foldLess_walk (cs : List Dat) (x : Trm) (cc c0 c1 c2 c3 : Value) (w : World) (hcon : RepS w w.heap.size cs cc) (hbody : TrmR w w.heap.size x [c0, c1, c2, c3]) (hE : Env w) (hbk : Dat.bulkL cs ≤ 1048576) :
  Calls Tryz.prog 7 #[.agg #[cc, c0, c1, c2, c3]] w fun e w' => e = .returned (.bool true) ∧ Below w.heap.size w w' := by
 obtain ⟨q, r, u, q', r', u', rfl, rfl, rfl, rfl⟩ := hbody.shape2
 obtain ⟨oc, lc, kc, rfl⟩ : ∃ o l c, cc = .slice o l c := by obtain ⟨o, l, c, h, _⟩ := hcon; exact ⟨o, l, c, h⟩
 have HLC := Lib.hid (show lc = cs.length from by
  obtain ⟨o, l, c, h, h2, _⟩ := hcon
  simp only [Value.slice.injEq] at h
  obtain ⟨rfl, rfl, rfl⟩ := h
  exact h2)
 obtain ⟨W1, hW1⟩ : ∃ W1, w.alloc (.cells #[.slice oc lc kc, .int .i64 x.op, .int .i64 x.n, .slice q r u, .slice q' r' u'] 28) = W1 := ⟨_, rfl⟩
 have HB1 := Lib.hid (show Below w.heap.size w W1 from by rw [← hW1]; exact Below.one w _)
 have HX1 := Lib.hid (show BoxL W1 w.heap.size 28 [.slice oc lc kc, .int .i64 x.op, .int .i64 x.n, .slice q r u, .slice q' r' u'] from by rw [← hW1]; exact BoxL.new rfl _ _)
 have HAW := Lib.hid (awake11_any W1 (env_kept hE HB1.out))
 have HCON := Lib.hid (fun W (hb : Below w.heap.size w W) => hcon.kept hb)
 have HBODY := Lib.hid (fun W (hb : Below w.heap.size w W) => TrmR.kept hb _ _ hbody)
 have HENV := Lib.hid (fun W (hb : Below w.heap.size w W) => env_kept hE hb)
 have HW := Lib.hid hW1
 obtain ⟨f, hf⟩ : ∃ f, Fd.fewB cs x 300 = f := ⟨_, rfl⟩
 have HFEW := Lib.hid (fun W (hb : Below w.heap.size w W) => few11_any cs x _ _ _ _ _ 300 w.heap.size W (HCON.out W hb) (HBODY.out W hb) hb.size (by omega) (by omega) f hf)
 have HFF := Lib.hid hf
 have HBK := Lib.hid hbk
 clear hcon hbody hE hW1 hf hbk
 go_enter Tryz.func7, Tryz.ntmps7
 go_upto_region 1 with fail
 rw [HW.out]
 clear HW
 go_wp2_with fail
 refine HAW.out.mono ?_
 rintro e W2 ⟨rfl, hb2⟩
 have HB2 := Lib.hid (HB1.out.trans (hb2.mono HB1.out.size))
 have HX2 := Lib.hid (HX1.out.keep hb2)
 clear hb2 HAW HX1 HB1
 have x0 := HX2.out.cell 0 rfl
 have x1 := HX2.out.cell 1 rfl
 have x2 := HX2.out.cell 2 rfl
 have x3 := HX2.out.cell 3 rfl
 have x4 := HX2.out.cell 4 rfl
 have xl := HX2.out.lt
 go_wp2_with fail
 refine (HFEW.out W2 HB2.out).mono ?_
 rintro e W3 ⟨rfl, hb3⟩
 have HB3 := Lib.hid (HB2.out.trans (hb3.mono HB2.out.size))
 have HX3 := Lib.hid (HX2.out.keep hb3)
 clear hb3 HFEW HX2 HB2 x0 x1 x2 x3 x4 xl
 cases f with
 | false =>
  go_wp2_with fail
  go_ret
  exact ⟨rfl, HB3.out⟩
 | true =>
  have hfew := HFF.out
  simp only [Fd.fewB, Bool.and_eq_true, decide_eq_true_eq] at hfew
  obtain ⟨hf1, hf2, hf3⟩ := hfew
  have HCV := Lib.hid (fconvert_any cs x _ _ _ _ _ w.heap.size W3 (HCON.out W3 HB3.out) (HBODY.out W3 HB3.out) HB3.out.size (HENV.out W3 HB3.out) (by omega) (fun _ => by omega) (fun _ d hd => Nat.le_trans (Fd.bulkL_mem hd) HBK.out))
  have x0 := HX3.out.cell 0 rfl
  have x1 := HX3.out.cell 1 rfl
  have x2 := HX3.out.cell 2 rfl
  have x3 := HX3.out.cell 3 rfl
  have x4 := HX3.out.cell 4 rfl
  have xl := HX3.out.lt
  by_cases hok : Fd.okP cs x = true
  ·have hconv : Fd.conv cs x = some (Fd.term Fd.foldF x cs) := if_pos hok
   obtain ⟨x', cs', hp⟩ : ∃ x' cs', Fd.term Fd.foldF x cs = (x', cs') := ⟨_, _, rfl⟩
   have hsm := (Fd.term_small Fd.foldF x cs (Fd.wf_neat _ _ (Fd.okP_wf hok)).1).1
   have hmo := Fd.term_more Fd.foldF x cs
   have hlo := Fd.term_lone Fd.foldF x cs
   have hok2 := Fd.term_ok Fd.foldF_right hok
   rw [hconv, hp] at HCV
   rw [hp] at hsm hmo hlo hok2
   have hbn : x.bnd.length ≤ 3000000 := by
    have h := hok
    unfold Fd.okP at h
    simp only [Bool.and_eq_true] at h
    have := Trm.newB_short h.2.2
    omega
   have hbn2 : x'.bnd.length ≤ 3000000 := by
    unfold Fd.okP at hok2
    simp only [Bool.and_eq_true] at hok2
    have := Trm.newB_short hok2.2.2
    omega
   obtain ⟨m, hm⟩ := hmo
   replace hsm : x'.all ≤ x.all := hsm
   replace hm : cs ++ m = cs' := hm
   replace hlo : Fd.lone x' = false := hlo
   subst hm
   have HSM := Lib.hid hsm
   have HBN := Lib.hid hbn
   have HBN2 := Lib.hid hbn2
   have HLO := Lib.hid hlo
   have HF1 := Lib.hid (show x.all ≤ 300 by omega)
   clear hsm hbn hbn2 hlo hok2 hconv hok hp hf1 hf2 hf3
   go_wp2_with fail
   refine HCV.out.mono ?_
   rintro e W4 ⟨hb4, oc4, lc4, kc4, o4, n4, ov4, lv4, cv4, ot4, lt4, ct4, rfl, hr4, ht4⟩
   have HB4 := Lib.hid (HB3.out.trans (hb4.mono HB3.out.size))
   have HX4 := Lib.hid (HX3.out.keep hb4)
   have HR4 := Lib.hid hr4
   have HT4 := Lib.hid ht4
   clear hb4 hr4 ht4 HCV HX3 x0 x1 x2 x3 x4 xl HB3
   go_upto_region 7 with fail
   obtain ⟨W5, hW5⟩ : ∃ W5, W4.alloc (.cells #[.slice oc4 lc4 kc4, .int .i64 o4, .int .i64 n4, .slice ov4 lv4 cv4, .slice ot4 lt4 ct4] 28) = W5 := ⟨_, rfl⟩
   rw [hW5]
   have hb5 : Below W4.heap.size W4 W5 := by rw [← hW5]; exact Below.one _ _
   have HQ5 := Lib.hid (show BoxL W5 W4.heap.size 28 [.slice oc4 lc4 kc4, .int .i64 o4, .int .i64 n4, .slice ov4 lv4 cv4, .slice ot4 lt4 ct4] from by rw [← hW5]; exact BoxL.new rfl _ _)
   have HX5 := Lib.hid (HX4.out.keep hb5)
   have HB5 := Lib.hid (HB4.out.trans (hb5.mono HB4.out.size))
   have HTT := Lib.hid (fun W (hb : Below W5.heap.size W5 W) => TrmR.kept (hb5.trans (hb.mono hb5.size)) _ _ HT4.out)
   have HRR := Lib.hid (fun W (hb : Below W5.heap.size W5 W) => HR4.out.kept (hb5.trans (hb.mono hb5.size)))
   have HZZ := Lib.hid (fun W (hb : Below W5.heap.size W5 W) => Nat.le_trans hb5.size hb.size)
   have HBB := Lib.hid (fun W (hb : Below W5.heap.size W5 W) => HB5.out.trans (hb.mono HB5.out.size))
   obtain ⟨hfr, hle, hcap⟩ := HR4.out.front HLC.out
   have HFR := Lib.hid (fun W (hb : Below W5.heap.size W5 W) => hfr.kept (hb5.trans (hb.mono hb5.size)))
   obtain ⟨k1, hk1⟩ : ∃ k1, x'.all = k1 := ⟨_, rfl⟩
   obtain ⟨k2, hk2⟩ : ∃ k2, x.all = k2 := ⟨_, rfl⟩
   have HS1 := Lib.hid (fun W (hb : Below W5.heap.size W5 W) => tSizeP_any x' _ _ _ _ W4.heap.size W (HTT.out W hb) (HZZ.out W hb) (by have := HSM.out; have := HF1.out; omega) HBN2.out)
   have HS2 := Lib.hid (fun W (hb : Below W5.heap.size W5 W) => tSizeP_any x _ _ _ _ w.heap.size W (HBODY.out W (HBB.out W hb)) (HBB.out W hb).size (by have := HF1.out; omega) HBN.out)
   have d1 : decide ((k2 : Int) < (k1 : Int)) = false := by have := HSM.out; rw [hk1, hk2] at this; rw [decide_eq_false_iff_not]; omega
   have d2 : decide ((lc4 : Int) < (lc : Int)) = false := by rw [decide_eq_false_iff_not]; omega
   have d3 : decide (k2 < k1) = false := by have := HSM.out; rw [hk1, hk2] at this; rw [decide_eq_false_iff_not]; omega
   have d4 : decide (lc4 < lc) = false := by rw [decide_eq_false_iff_not]; omega
   rw [hk1] at HS1
   rw [hk2] at HS2
   clear hW5 hb5 HR4 HT4 HX4 HB4 hfr hk1 hk2
   have HD5 := Lib.hid ((Below.refl W5.heap.size W5).drew)
   go_cut [34] (fun c wx => c = .bool false ∧ Hid (Below W5.heap.size W5 wx))
   case first => as_aux_lemma =>
    refine wp_region_quiet_all (Below W5.heap.size W5) (by kernel_rfl) (by kernel_rfl) HD5.out ?_
    intro T _ W HW HW2
    have x0 : ∀ t, (W t).cell? _ = _ := fun t => (HX5.out.keep (HW t)).cell 0 rfl
    have x1 : ∀ t, (W t).cell? _ = _ := fun t => (HX5.out.keep (HW t)).cell 1 rfl
    have x2 : ∀ t, (W t).cell? _ = _ := fun t => (HX5.out.keep (HW t)).cell 2 rfl
    have x3 : ∀ t, (W t).cell? _ = _ := fun t => (HX5.out.keep (HW t)).cell 3 rfl
    have x4 : ∀ t, (W t).cell? _ = _ := fun t => (HX5.out.keep (HW t)).cell 4 rfl
    have y0 : ∀ t, (W t).cell? _ = _ := fun t => (HQ5.out.keep (HW t)).cell 0 rfl
    have y1 : ∀ t, (W t).cell? _ = _ := fun t => (HQ5.out.keep (HW t)).cell 1 rfl
    have y2 : ∀ t, (W t).cell? _ = _ := fun t => (HQ5.out.keep (HW t)).cell 2 rfl
    have y3 : ∀ t, (W t).cell? _ = _ := fun t => (HQ5.out.keep (HW t)).cell 3 rfl
    have y4 : ∀ t, (W t).cell? _ = _ := fun t => (HQ5.out.keep (HW t)).cell 4 rfl
    have HWH := Lib.hid HW
    have HWW := Lib.hid HW2
    clear HW HW2
    repeat (go_big_quiet_step (first | (go_at_call 19; (with_reducible refine (HS1.out _ (HWH.out _)).mono ?_); rintro e1 w1 ⟨rfl, hb⟩; exact ⟨rfl, HWW.out _ (Below.next (HWH.out _) hb)⟩) | (go_at_call 19; (with_reducible refine (HS2.out _ (HWH.out _)).mono ?_); rintro e1 w1 ⟨rfl, hb⟩; exact ⟨rfl, HWW.out _ (Below.next (HWH.out _) hb)⟩) | fail))
    refine wpQuiet_nil ?_
    intro t
    have HBT := Lib.hid (HWH.out t)
    clear x0 x1 x2 x3 x4 y0 y1 y2 y3 y4 HWW HWH
    go_wp2_with fail
    go_meet
    exact ⟨rfl, HBT⟩
   case rest =>
    obtain ⟨rfl, HBC⟩ := hcut
    have HSI := Lib.hid (fun W (hb : Below W5.heap.size W5 W) => single_any x' _ _ _ _ W4.heap.size W (HTT.out W hb) (HZZ.out W hb))
    have HCO := Lib.hid (fun W (hb : Below W5.heap.size W5 W) => rconsts_any cs cs (.slice oc4 lc kc4) (.slice oc lc kc) W.heap.size W ((HFR.out W hb).wider (HZZ.out W hb)) ((HCON.out W (HBB.out W hb)).wider (HBB.out W hb).size) (Nat.le_refl _) true (all2_self cs))
    rw [HLO.out] at HSI
    clear HS1 HS2 d1 d2 d3 d4 HTT HRR HFR
    have HD6 := Lib.hid (HBC.out.trans ((Below.refl wc.heap.size wc).drew.mono HBC.out.size))
    have hkc : lc ≤ kc4 := Nat.le_trans hle hcap
    have dk : decide (lc ≤ kc4) = true := decide_eq_true hkc
    clear hle hcap
    go_upto_region 9 with fail
    refine wp_region_quiet_all (Below W5.heap.size W5) (by kernel_rfl) (by kernel_rfl) HD6.out ?_
    intro T _ W HW HW2
    have x0 : ∀ t, (W t).cell? _ = _ := fun t => (HX5.out.keep (HW t)).cell 0 rfl
    have y0 : ∀ t, (W t).cell? _ = _ := fun t => (HQ5.out.keep (HW t)).cell 0 rfl
    have y1 : ∀ t, (W t).cell? _ = _ := fun t => (HQ5.out.keep (HW t)).cell 1 rfl
    have y2 : ∀ t, (W t).cell? _ = _ := fun t => (HQ5.out.keep (HW t)).cell 2 rfl
    have y3 : ∀ t, (W t).cell? _ = _ := fun t => (HQ5.out.keep (HW t)).cell 3 rfl
    have y4 : ∀ t, (W t).cell? _ = _ := fun t => (HQ5.out.keep (HW t)).cell 4 rfl
    have HWH := Lib.hid HW
    have HWW := Lib.hid HW2
    clear HW HW2
    repeat (go_big_quiet_step (first | (go_at_call 20; (with_reducible refine (HCO.out _ (HWH.out _)).mono ?_); rintro e1 w1 ⟨rfl, hb⟩; exact ⟨rfl, HWW.out _ (Below.next (HWH.out _) hb)⟩) | (go_at_call 21; (with_reducible refine (HSI.out _ (HWH.out _)).mono ?_); rintro e1 w1 ⟨rfl, hb⟩; exact ⟨rfl, HWW.out _ (Below.next (HWH.out _) hb)⟩) | fail))
    refine wpQuiet_nil ?_
    intro t
    have HBT := Lib.hid (HBB.out _ (HWH.out t))
    clear x0 y0 y1 y2 y3 y4 HWW HWH
    go_wp2_with fail
    go_ret
    exact ⟨rfl, HBT.out⟩
  ·have hconv : Fd.conv cs x = none := if_neg hok
   rw [hconv] at HCV
   clear hconv hok
   go_wp2_with fail
   refine HCV.out.mono ?_
   rintro e W4 ⟨hb4, rfl⟩
   have HB4 := Lib.hid (HB3.out.trans (hb4.mono HB3.out.size))
   clear hb4 HCV HX3 x0 x1 x2 x3 x4 xl HB3
   go_wp2_with fail
   go_ret
   exact ⟨rfl, HB4.out.trans ((Below.one W4 _).mono HB4.out.size)⟩
end
end Go.Proofs.YtgbibibmpoekiaaGreatDoor

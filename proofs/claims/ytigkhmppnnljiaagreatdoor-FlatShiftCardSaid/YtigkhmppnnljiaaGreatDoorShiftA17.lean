/-
  What the proofs lean on: Few14.
-/
import Derived.Test.YtigkhmppnnljiaaGreatDoorShiftA09
import Derived.Test.YtigkhmppnnljiaaGreatDoorShiftA15
namespace Go.Proofs.YtigkhmppnnljiaaGreatDoor
open Go Go.RowKit

namespace Mdl
def fewC (n : Int) : List Cod → Int → Bool
  | [], _ => true
  | c :: l, k => decide ((c.body.all : Int) ≤ n) && (decide (k + c.body.all ≤ n) && fewC n l (k + c.body.all))
/-- Are there few codes, constants, terms? -/
def fewB (m : Mdl) (n : Int) : Bool := decide (m.codes.length ≤ 50) && (decide (m.consts.length ≤ 100) && (decide ((Dat.allL m.consts : Int) ≤ 2000) && (decide ((m.body.all : Int) ≤ n) && fewC n m.codes m.body.all)))
theorem fewC_step {n k : Int} {l : List Cod} {j : Nat} {c : Cod} (h : l[j]? = some c) : fewC n (l.drop j) k = (decide ((c.body.all : Int) ≤ n) && (decide (k + c.body.all ≤ n) && fewC n (l.drop (j + 1)) (k + c.body.all))) := by
  obtain ⟨hj, he⟩ := List.getElem?_eq_some_iff.1 h
  rw [List.drop_eq_getElem_cons hj, he, fewC]
theorem fewC_mem {n : Int} : ∀ {l : List Cod} {k : Int}, fewC n l k = true → ∀ c ∈ l, (c.body.all : Int) ≤ n
  | [], _, _, c, h => by simp at h
  | x :: l, k, h, c, hc => by
    rw [fewC] at h
    simp only [Bool.and_eq_true, decide_eq_true_eq] at h
    rcases List.mem_cons.1 hc with rfl | hc
    · exact h.1
    · exact fewC_mem h.2.2 c hc
theorem fewC_sum {n : Int} : ∀ {l : List Cod} {k : Int}, fewC n l k = true → k ≤ n → k + ((l.map fun c => c.body.all).sum : Nat) ≤ n
  | [], _, _, hk => by simpa using hk
  | x :: l, k, h, _ => by
    rw [fewC] at h
    simp only [Bool.and_eq_true, decide_eq_true_eq] at h
    have := fewC_sum h.2.2 h.2.1
    simp only [List.map_cons, List.sum_cons]
    omega
theorem few_facts {m : Mdl} {n : Int} (h : m.fewB n = true) : m.codes.length ≤ 50 ∧ m.consts.length ≤ 100 ∧ (Dat.allL m.consts : Int) ≤ 2000 ∧ (m.body.all : Int) ≤ n ∧ (∀ c ∈ m.codes, (c.body.all : Int) ≤ n) ∧ (m.body.all : Int) + ((m.codes.map fun c => c.body.all).sum : Nat) ≤ n := by
  simp only [fewB, Bool.and_eq_true, decide_eq_true_eq] at h
  obtain ⟨h1, h2, h3, h4, h5⟩ := h
  exact ⟨h1, h2, h3, h4, fewC_mem h5, fewC_sum h5 h4⟩
end Mdl

set_option maxHeartbeats 8000000 in
set_option maxRecDepth 100000 in
theorem few14_any (m : Mdl) (v : Value) (n : Int) (B : Nat) (w : World) (hv : MdlR w B m v) (hB : B ≤ w.heap.size) (h0 : 0 ≤ n) (h1 : n ≤ 900) (r : Bool) (hr : m.fewB n = r) :
    Calls Tryz.prog 14 #[v, .int .i64 n] w fun e w' => e = .returned (.bool r) ∧ Below w.heap.size w w' := by
  obtain ⟨cc, pp, b0, b1, b2, b3, rfl, hcon, hcod, hbody⟩ := hv
  obtain ⟨oc, lc, kc, rfl⟩ : ∃ o l c, cc = .slice o l c := by obtain ⟨o, l, c, h, _⟩ := hcon; exact ⟨o, l, c, h⟩
  have hlc : lc = m.consts.length := by
    obtain ⟨o, l, c, h, h2, _⟩ := hcon
    simp only [Value.slice.injEq] at h
    obtain ⟨rfl, rfl, rfl⟩ := h
    exact h2
  obtain ⟨op, lp, kp, rfl⟩ := hcod.form
  obtain ⟨hlp, hkp, hmp⟩ := hcod.lens
  obtain ⟨q, r', u, q', r'', u', rfl, rfl, rfl, rfl⟩ := trm_form hbody
  obtain ⟨W1, hW1⟩ : ∃ W1, w.alloc (.cells #[.slice oc lc kc, .slice op lp kp, .int .i64 m.body.op, .int .i64 m.body.n, .slice q r' u, .slice q' r'' u'] 43) = W1 := ⟨_, rfl⟩
  have HB1 := Lib.hid (show Below w.heap.size w W1 from by rw [← hW1]; exact Below.one w _)
  have HX1 := Lib.hid (show BoxL W1 w.heap.size 43 [.slice oc lc kc, .slice op lp kp, .int .i64 m.body.op, .int .i64 m.body.n, .slice q r' u, .slice q' r'' u'] from by rw [← hW1]; exact BoxL.new rfl _ _)
  have HW := Lib.hid hW1
  have HCON := Lib.hid hcon
  have HCOD := Lib.hid hcod
  have HBODY := Lib.hid hbody
  have HLP := Lib.hid hlp
  have u0 := HX1.out.cell 0 rfl
  have u1 := HX1.out.cell 1 rfl
  have u2 := HX1.out.cell 2 rfl
  have u3 := HX1.out.cell 3 rfl
  have u4 := HX1.out.cell 4 rfl
  have u5 := HX1.out.cell 5 rfl
  have ul := HX1.out.lt
  by_cases c1 : 50 < lp
  · obtain rfl : false = r := by
      rw [← hr, Mdl.fewB, ← hlp, decide_eq_false (show ¬ lp ≤ 50 by omega)]; rfl
    have d1 : decide ((50 : Int) < (lp : Int)) = true := decide_eq_true (by omega)
    clear hr hlp hlc hcon hcod hbody hW1
    go_enter Tryz.func14, Tryz.ntmps14
    go_upto_region 1 with fail
    rw [HW.out]
    go_wp2_with fail
    all_goals go_ret
    all_goals exact ⟨rfl, HB1.out⟩
  have d1 : decide ((50 : Int) < (lp : Int)) = false := decide_eq_false (by omega)
  by_cases c2 : 100 < lc
  · obtain rfl : false = r := by
      rw [← hr, Mdl.fewB, ← hlc, decide_eq_false (show ¬ lc ≤ 100 by omega)]; simp
    have d2 : decide ((100 : Int) < (lc : Int)) = true := decide_eq_true (by omega)
    clear hr hlp hlc hcon hcod hbody hW1
    go_enter Tryz.func14, Tryz.ntmps14
    go_upto_region 1 with fail
    rw [HW.out]
    go_wp2_with fail
    all_goals go_ret
    all_goals exact ⟨rfl, HB1.out⟩
  have d2 : decide ((100 : Int) < (lc : Int)) = false := decide_eq_false (by omega)
  obtain ⟨f1, hf1⟩ : ∃ f1, decide ((Dat.allL m.consts : Int) ≤ 2000) = f1 := ⟨_, rfl⟩
  obtain ⟨f2, hf2⟩ : ∃ f2, decide ((m.body.all : Int) ≤ n) = f2 := ⟨_, rfl⟩
  have HR := Lib.hid (show (f1 && (f2 && Mdl.fewC n m.codes m.body.all)) = r from by rw [← hr, Mdl.fewB, ← hlp, ← hlc, decide_eq_true (show lp ≤ 50 by omega), decide_eq_true (show lc ≤ 100 by omega), hf1, hf2]; rfl)
  have HC1 := Lib.hid (rfewAll_to m.consts (.slice oc lc kc) 2000 B W1 (HCON.out.kept (HB1.out.mono hB)) (by have := HB1.out.size; omega) (by omega) (by omega) f1 hf1)
  have HF2 := Lib.hid hf2
  clear hr hlp hlc hcon hcod hbody hW1 hf1 hf2
  go_enter Tryz.func14, Tryz.ntmps14
  go_upto_region 1 with fail
  rw [HW.out]
  go_wp2_with fail
  with_reducible refine HC1.out.mono ?_
  rintro e w2 ⟨rfl, hb2⟩
  have HB2 := Lib.hid (HB1.out.trans (hb2.mono HB1.out.size))
  have HX2 := Lib.hid (HX1.out.keep hb2)
  clear hb2 HC1 u0 u1 u2 u3 u4 u5 ul
  cases f1 with
  | false =>
    obtain rfl : r = false := by rw [← HR.out]; rfl
    go_wp2_with fail
    all_goals go_ret
    all_goals exact ⟨rfl, HB2.out⟩
  | true =>
    have u2 := HX2.out.cell 2 rfl
    have u3 := HX2.out.cell 3 rfl
    have u4 := HX2.out.cell 4 rfl
    have u5 := HX2.out.cell 5 rfl
    have ul := HX2.out.lt
    have HC2 := Lib.hid (tFew_any m.body _ _ _ _ n B w2 (TrmR.kept (HB2.out.mono hB) _ _ HBODY.out) (by have := HB2.out.size; omega) h0 (by omega))
    rw [HF2.out] at HC2
    go_wp2_with fail
    with_reducible refine HC2.out.mono ?_
    rintro e w3 ⟨rfl, hb3⟩
    have HB3 := Lib.hid (HB2.out.trans (hb3.mono HB2.out.size))
    have HX3 := Lib.hid (HX2.out.keep hb3)
    clear hb3 HC2 u2 u3 u4 u5 ul
    cases f2 with
    | false =>
      obtain rfl : r = false := by rw [← HR.out]; rfl
      go_wp2_with fail
      all_goals go_ret
      all_goals exact ⟨rfl, HB3.out⟩
    | true =>
      have HF := Lib.hid (show Mdl.fewC n m.codes m.body.all = r from by rw [← HR.out]; rfl)
      have u2 := HX3.out.cell 2 rfl
      have u3 := HX3.out.cell 3 rfl
      have u4 := HX3.out.cell 4 rfl
      have u5 := HX3.out.cell 5 rfl
      have ul := HX3.out.lt
      have hbn : (m.body.all : Int) ≤ n := of_decide_eq_true HF2.out
      have HC3 := Lib.hid (tSize_any m.body _ _ _ _ B w3 (TrmR.kept (HB3.out.mono hB) _ _ HBODY.out) (by have := HB3.out.size; omega) (by omega))
      obtain ⟨k0, hk0⟩ : ∃ k0, m.body.all = k0 := ⟨_, rfl⟩
      rw [hk0] at HC3 HF hbn
      clear hk0
      go_wp2_with fail
      with_reducible refine HC3.out.mono ?_
      rintro e w4 ⟨rfl, hb4⟩
      have HB4 := Lib.hid (HB3.out.trans (hb4.mono HB3.out.size))
      have HX4 := Lib.hid (HX3.out.keep hb4)
      clear hb4 HC3 u2 u3 u4 u5 ul
      go_wp2_with fail
      go_loopg [5, 6] lp (fun g a i wr => ∃ (j : Nat) (k : Int), g = lp - j ∧ j ≤ lp ∧ a = .int .i64 k ∧ i = .int .i64 j ∧ 0 ≤ k ∧ k ≤ n ∧ Hid (Mdl.fewC n (m.codes.drop j) k = r) ∧ Hid (Below w4.heap.size w4 wr))
      case atStart => exact ⟨0, k0, rfl, by omega, rfl, rfl, by omega, hbn, HF, Lib.hid (Below.refl _ _)⟩
      case round =>
        obtain ⟨j, k, rfl, hj, rfl, rfl, hk0, hk1, HS, HBR⟩ := hrel
        have HXR := Lib.hid (HX4.out.keep HBR.out)
        have HBW := Lib.hid (HB4.out.trans (HBR.out.mono HB4.out.size))
        have u1 := HXR.out.cell 1 rfl
        have ul := HXR.out.lt
        by_cases hjl : j < lp
        · obtain ⟨c, hx⟩ : ∃ c, m.codes[j]? = some c := ⟨_, List.getElem?_eq_getElem (by rw [← HLP.out]; exact hjl)⟩
          obtain ⟨b, off, cs, ho, _, hcl, hcell, hcr⟩ := HCOD.out.at (HBW.out.mono hB) hx
          subst ho
          obtain ⟨vs, d0, d1, d2, d3, rfl, _, hir⟩ := hcr
          have e2 := hcell 2 _ rfl
          have e3 := hcell 3 _ rfl
          have e4 := hcell 4 _ rfl
          have e5 := hcell 5 _ rfl
          have HST := Lib.hid (Mdl.fewC_step (n := n) (k := k) hx)
          obtain ⟨q3, hq3⟩ : ∃ q3, decide ((c.body.all : Int) ≤ n) = q3 := ⟨_, rfl⟩
          have HI := Lib.hid (TrmR.kept (HBW.out.mono hB) _ _ hir)
          have HCA := Lib.hid (tFew_any c.body d0 d1 d2 d3 n B wr HI.out (by have := HBW.out.size; omega) h0 (by omega))
          rw [hq3] at HCA HST
          have HQ3 := Lib.hid hq3
          have hbl := cell_lt e2
          clear hx hcell hcl hir hq3
          go_wp2_with fail
          with_reducible refine HCA.out.mono ?_
          rintro e w5 ⟨rfl, hb5⟩
          have HB5 := Lib.hid (HBR.out.trans (hb5.mono HBR.out.size))
          have HX5 := Lib.hid (HXR.out.keep hb5)
          have E2 := Lib.hid ((hb5.cell (p := ⟨b, off + j * 6 + 2, none⟩) hbl).trans e2)
          have E3 := Lib.hid ((hb5.cell (p := ⟨b, off + j * 6 + 3, none⟩) hbl).trans e3)
          have E4 := Lib.hid ((hb5.cell (p := ⟨b, off + j * 6 + 4, none⟩) hbl).trans e4)
          have E5 := Lib.hid ((hb5.cell (p := ⟨b, off + j * 6 + 5, none⟩) hbl).trans e5)
          have HI5 := Lib.hid (TrmR.kept (hb5.mono (by have := HBW.out.size; omega)) _ _ HI.out)
          have hz5 := hb5.size
          clear hb5 HCA u1 ul e2 e3 e4 e5 HI
          cases q3 with
          | false =>
            obtain rfl : r = false := by rw [← HS.out, HST.out]; rfl
            go_wp2_with fail
            all_goals go_ret
            all_goals exact ⟨rfl, HB4.out.trans (HB5.out.mono HB4.out.size)⟩
          | true =>
            have e2 := E2.out
            have e3 := E3.out
            have e4 := E4.out
            have e5 := E5.out
            have u1 := HX5.out.cell 1 rfl
            have ul := HX5.out.lt
            have hcn : (c.body.all : Int) ≤ n := of_decide_eq_true HQ3.out
            have HCS := Lib.hid (tSize_any c.body d0 d1 d2 d3 B w5 HI5.out (by have := HBW.out.size; omega) (by omega))
            obtain ⟨kc2, hkc⟩ : ∃ kc2, c.body.all = kc2 := ⟨_, rfl⟩
            rw [hkc] at HCS HST hcn
            clear hkc
            go_wp2_with fail
            with_reducible refine HCS.out.mono ?_
            rintro e w6 ⟨rfl, hb6⟩
            have HB6 := Lib.hid (HB5.out.trans (hb6.mono HB5.out.size))
            clear hb6 HCS u1 ul e2 e3 e4 e5
            by_cases a4 : n < k + (kc2 : Int)
            · have f4 : decide (n < k + (kc2 : Int)) = true := decide_eq_true a4
              obtain rfl : r = false := by rw [← HS.out, HST.out, decide_eq_false (show ¬ k + (kc2 : Int) ≤ n by omega)]; rfl
              go_wp2_with fail
              all_goals go_ret
              all_goals exact ⟨rfl, HB4.out.trans (HB6.out.mono HB4.out.size)⟩
            · have f4 : decide (n < k + (kc2 : Int)) = false := decide_eq_false a4
              have HS2 := Lib.hid (show Mdl.fewC n (m.codes.drop (j + 1)) (k + kc2) = r from by rw [← HS.out, HST.out, decide_eq_true (show k + (kc2 : Int) ≤ n by omega)]; rfl)
              go_wp2_with fail
              go_roundg (lp - (j + 1))
              case measure => omega
              case rel => exact ⟨j + 1, k + kc2, rfl, by omega, rfl, by go_num, by omega, by omega, HS2, HB6⟩
        · obtain rfl : j = lp := by omega
          obtain rfl : r = true := by rw [← HS.out, List.drop_eq_nil_of_le (by rw [← HLP.out]; exact Nat.le_refl _)]; rfl
          go_wp2_with fail
          all_goals go_ret
          all_goals exact ⟨rfl, HBW.out⟩
end Go.Proofs.YtigkhmppnnljiaaGreatDoor

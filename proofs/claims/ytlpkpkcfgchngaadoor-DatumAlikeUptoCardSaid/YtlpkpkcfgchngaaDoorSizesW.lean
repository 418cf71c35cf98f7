/-
  The walk of DatumSizes.
-/
import Derived.Test.YtlpkpkcfgchngaaDoorAwake2
import Derived.Test.YtlpkpkcfgchngaaDoorSize
import Derived.Deep.LoopGhost
namespace Go.Proofs.YtlpkpkcfgchngaaDoor
open Go.RowKit

theorem sizeL_eq (deep : Nat) (hd : deep + 100 ≤ 1000) : ∀ l : List Dat, (∀ x ∈ l, Dat.all x ≤ 100) → Dat.sizeL l deep = Dat.allL l
  | [], _ => rfl
  | x :: l, h => by
    rw [Dat.sizeL, Dat.allL, sizeL_eq deep hd l (fun y hy => h y (by simp [hy])), Dat.size_eq x deep (by have := h x (by simp); omega)]
theorem allL_step {l : List Dat} {j : Nat} {x : Dat} (h : l[j]? = some x) : Dat.allL (l.take (j + 1)) = Dat.allL (l.take j) + Dat.all x := by
  rw [List.take_add_one, h]
  show Dat.allL (l.take j ++ [x]) = _
  rw [Dat.allL_append]; simp [Dat.allL]
theorem allL_le {l : List Dat} {b : Nat} (h : ∀ x ∈ l, Dat.all x ≤ b) : Dat.allL l ≤ l.length * b := by
  induction l with
  | nil => simp [Dat.allL]
  | cons x l ih =>
    have h1 := h x (by simp)
    have h2 := ih (fun y hy => h y (by simp [hy]))
    simp only [Dat.allL, List.length_cons]
    rw [Nat.succ_mul]; omega

/-- A list's size needs no bound on it as a whole. -/
theorem all_list (l : List Dat) : Dat.all (Dat.list l) = Dat.allL l + 2 * l.length - l.length + 1 := by
  induction l with
  | nil => rfl
  | cons x l ih => simp only [Dat.list, Dat.pair, Dat.all, Dat.allL, ih, List.length_cons]; omega

theorem size_to (x : Dat) (v : Value) (B : Nat) (w : World) (n : Nat) (hn : Dat.size x 0 = n) (hv : RepD w B x v) (hB : B ≤ w.heap.size) (ha : Dat.all x ≤ 1000000) :
    Calls Tryd.prog 12 #[v] w fun e w' => e = .returned (.int .i64 n) ∧ Below w.heap.size w w' := by
  rw [← hn]; exact size_any x v B w hv hB ha

theorem lfew_to (x : Dat) (v : Value) (left : Int) (B : Nat) (w : World) (r : Bool) (hr : decide ((Dat.all x : Int) ≤ left) = r) (hv : RepD w B x v) (hB : B ≤ w.heap.size) (h0 : 0 ≤ left) (h1 : left ≤ 100000) :
    Calls Tryd.prog 8 #[v, .int .i64 left] w fun e w' => e = .returned (.bool r) ∧ Below w.heap.size w w' := by
  have := lfew_any x v left B w hv hB h0 h1
  rw [show decide (0 ≤ Dat.few x left) = r by rw [← hr, Bool.eq_iff_iff]; simp only [decide_eq_true_eq]; exact Dat.few_iff x left] at this
  exact this
theorem rFew_to (x : Dat) (v : Value) (left : Int) (B : Nat) (w : World) (r : Bool) (hr : decide ((Dat.all x : Int) ≤ left) = r) (hv : RepD w B x v) (hB : B ≤ w.heap.size) (h0 : 0 ≤ left) (h1 : left ≤ 100000) :
    Calls Tryd.prog 11 #[v, .int .i64 left] w fun e w' => e = .returned (.bool r) ∧ Below w.heap.size w w' := by
  have := rFew_any x v left B w hv hB h0 h1
  rw [show decide (0 ≤ Dat.few x left) = r by rw [← hr, Bool.eq_iff_iff]; simp only [decide_eq_true_eq]; exact Dat.few_iff x left] at this
  exact this

set_option maxHeartbeats 4000000 in
set_option maxRecDepth 100000 in
theorem datumSizes_walk (l : List Dat) (sl : Value) (w : World) (hv : RepS w w.heap.size l sl) (hE : Env w) :
    Calls Tryd.prog 4 #[sl] w fun e w' => e = .returned (.bool true) ∧ Below w.heap.size w w' := by
  have HS := Lib.hid hv
  obtain ⟨o, len, cap, rfl, hl, hcap, hmax, hc⟩ := hv
  have HV := Lib.hid hc
  have HL := Lib.hid hl
  clear hc hl
  go_enter Tryd.func4, Tryd.ntmps4
  go_wp2_with fail
  refine (awake2_any w hE).mono ?_
  rintro e' w1 ⟨rfl, hb1⟩
  by_cases hlen : 50 < len
  · go_wp2
    go_ret
    exact ⟨rfl, hb1⟩
  have HB1 := Lib.hid hb1
  clear hb1
  go_wp2_with fail
  go_loopg [4, 5] len (fun g t i wr => ∃ j : Nat, g = len - j ∧ j ≤ len ∧ i = .int .i64 j ∧ t = .int .i64 (Dat.allL (l.take j) : Nat) ∧ (∀ x ∈ l.take j, Dat.all x ≤ 100) ∧ Below w.heap.size w wr)
  case atStart => exact ⟨0, rfl, by omega, rfl, rfl, by simp, HB1.out⟩
  case round =>
    obtain ⟨j, rfl, hj, rfl, rfl, hall, hb⟩ := hrel
    have hT := allL_le hall
    have hTl : (l.take j).length ≤ j := List.length_take_le _ _
    have hT2 : Dat.allL (l.take j) ≤ 5000 := by
      have : (l.take j).length * 100 ≤ 50 * 100 := Nat.mul_le_mul_right _ (by omega)
      omega
    have HA := Lib.hid hall
    have hsz := hb.size
    have HB := Lib.hid hb
    clear hall hb hT hTl
    by_cases hjl : j < len
    · obtain ⟨x, hx⟩ : ∃ x, l[j]? = some x := ⟨_, List.getElem?_eq_getElem (by rw [← HL.out]; exact hjl)⟩
      obtain ⟨bb, off, k', n', d', s', l', o', len', cap', ho, hxe, e0, e1, e2, e3, e4, er⟩ := part_at2 HV.out HB.out hx
      subst ho hxe
      have HX := Lib.hid hx
      have ER := Lib.hid er
      have HST := Lib.hid (allL_step hx)
      clear hx er
      have hbb := cell_lt e0
      obtain ⟨y, hy⟩ : ∃ y, Dat.all (.mk k' n' d' s' l') = y := ⟨_, rfl⟩
      have HY := Lib.hid hy
      rw [hy] at HST
      by_cases h100 : y ≤ 100
      · go_wp2_with fail
        refine (lfew_to _ _ 100 w.heap.size _ true (by rw [HY.out]; exact decide_eq_true (by omega)) ER.out hsz (by omega) (by omega)).mono ?_
        rintro e' w2 ⟨rfl, hb2⟩
        have g : ∀ o, w2.cell? ⟨bb, o, none⟩ = wr.cell? ⟨bb, o, none⟩ := fun o => hb2.cell (p := ⟨bb, o, none⟩) hbb
        have f0 := (g _).trans e0
        have f1 := (g _).trans e1
        have f2 := (g _).trans e2
        have f3 := (g _).trans e3
        have f4 := (g _).trans e4
        have HB2 := Lib.hid (Below.next HB.out hb2)
        have HK2 := Lib.hid hb2
        have hs2 := hb2.size
        clear g hb2 hy
        have C3 : ∀ W, Below w2.heap.size w2 W → Calls Tryd.prog 12 #[.agg #[.int .i64 k', .int .i64 n', .int .i64 d', .string s', .slice o' len' cap']] W fun e w' => e = .returned (.int .i64 y) ∧ Below W.heap.size W w' := fun W hb =>
          size_to _ _ w.heap.size W y (by rw [← HY.out]; exact Dat.size_eq _ 0 (by rw [HY.out]; omega)) (ER.out.kept ((HK2.out.mono hsz).trans (hb.mono (by omega)))) (by have := hb.size; omega) (by rw [HY.out]; omega)
        have HC3 := Lib.hid C3
        have hmem : ∀ x ∈ l.take (j + 1), Dat.all x ≤ 100 := by
          intro x hx
          rw [List.take_add_one, HX.out] at hx
          rcases List.mem_append.1 hx with h | h
          · exact HA.out x h
          · simp only [Option.toList_some, List.mem_singleton] at h
            rw [h, HY.out]; exact h100
        have HM := Lib.hid hmem
        clear C3 hmem
        have hfin : ∀ w4, Below w2.heap.size w2 w4 → Below w.heap.size w w4 := fun w4 h => HB2.out.trans (h.mono (by omega))
        have HF := Lib.hid hfin
        clear hfin
        by_cases hl0 : len' = 0
        · subst hl0
          go_wp2_with fail
          refine (HC3.out _ (Below.refl _ _)).mono ?_
          rintro e' w3 ⟨rfl, hb3⟩
          go_wp2_with fail
          go_roundg (len - (j + 1))
          case measure => omega
          case rel => exact ⟨j + 1, rfl, by omega, by go_num, by rw [HST.out]; go_num, HM.out, HF.out _ hb3⟩
        · have hl1 : 0 < len' := by omega
          have hl2 : decide ((0 : Int) < (len' : Int)) = true := decide_eq_true (by omega)
          by_cases h90 : y ≤ 90
          · go_wp2_with fail
            refine (rFew_to _ _ 90 w.heap.size _ true (by rw [HY.out]; exact decide_eq_true (by omega)) (ER.out.kept (HK2.out.mono hsz)) (by omega) (by omega) (by omega)).mono ?_
            rintro e' w3 ⟨rfl, hb3⟩
            have g : ∀ o, w3.cell? ⟨bb, o, none⟩ = w2.cell? ⟨bb, o, none⟩ := fun o => hb3.cell (p := ⟨bb, o, none⟩) (by show bb < _; omega)
            have g0 := (g _).trans f0
            have g1 := (g _).trans f1
            have g2 := (g _).trans f2
            have g3 := (g _).trans f3
            have g4 := (g _).trans f4
            have HB3 := Lib.hid hb3
            clear g hb3
            go_wp2_with fail
            refine (HC3.out _ HB3.out).mono ?_
            rintro e' w4 ⟨rfl, hb4⟩
            go_wp2_with fail
            go_roundg (len - (j + 1))
            case measure => omega
            case rel => exact ⟨j + 1, rfl, by omega, by go_num, by rw [HST.out]; go_num, HM.out, HF.out _ (Below.next HB3.out hb4)⟩
          · go_wp2_with fail
            refine (rFew_to _ _ 90 w.heap.size _ false (by rw [HY.out]; exact decide_eq_false (by omega)) (ER.out.kept (HK2.out.mono hsz)) (by omega) (by omega) (by omega)).mono ?_
            rintro e' w3 ⟨rfl, hb3⟩
            go_wp2
            go_ret
            exact ⟨rfl, HF.out _ hb3⟩
      · go_wp2_with fail
        refine (lfew_to _ _ 100 w.heap.size _ false (by rw [HY.out]; exact decide_eq_false (by omega)) ER.out hsz (by omega) (by omega)).mono ?_
        rintro e' w2 ⟨rfl, hb2⟩
        go_wp2
        go_ret
        exact ⟨rfl, Below.next HB.out hb2⟩
    · obtain rfl : j = len := by omega
      have hLt : l.take j = l := List.take_of_length_le (by rw [← HL.out]; omega)
      rw [hLt] at HA
      have hAL : Dat.allL (l.take j) = Dat.allL l := by rw [hLt]
      rw [hAL] at hT2 ⊢
      obtain ⟨N, hN⟩ : ∃ N, Dat.allL l = N := ⟨_, rfl⟩
      have HN := Lib.hid hN
      have h1 : Dat.size (Dat.list l) 0 = N + j + 1 := by rw [Dat.size_list l 0 (by rw [← HL.out]; omega) HA.out, hN, ← HL.out]
      have h2 : Dat.size (.mk 7 0 0 ⟨#[]⟩ l) 0 = N + 1 := by rw [Dat.size, if_pos (by omega), sizeL_eq 1 (by omega) l HA.out, hN]; omega
      have h3 : Dat.all (Dat.list l) ≤ 1000000 := by rw [all_list, hN, ← HL.out]; omega
      have h4 : Dat.all (.mk 7 0 0 ⟨#[]⟩ l) ≤ 1000000 := by rw [Dat.all, hN]; omega
      have H1 := Lib.hid h1
      have H2 := Lib.hid h2
      have H3 := Lib.hid h3
      have H4 := Lib.hid h4
      rw [hN] at hT2 ⊢
      clear h1 h2 h3 h4 hLt hAL hN
      go_wp2_with fail
      refine (list_any l _ w.heap.size _ (HS.out.kept HB.out) hsz).mono ?_
      rintro e' w2 ⟨v2, rfl, hr2, hb2⟩
      obtain ⟨k2, n2, d2, s2, o2, len2, cap2, rfl⟩ := agg_of hr2
      have HR2 := Lib.hid hr2
      have HB2 := Lib.hid (Below.next HB.out hb2)
      clear hr2 hb2
      go_wp2_with fail
      refine (size_to _ _ _ _ _ H1.out HR2.out (Nat.le_refl _) H3.out).mono ?_
      rintro e' w3 ⟨rfl, hb3⟩
      have HB3 := Lib.hid (Below.next HB2.out hb3)
      have hs3 := HB3.out.size
      clear hb3
      have e1 : ((N + j + 1 : Nat) : Int) = (N : Int) + (j : Int) + 1 := by omega
      rw [e1]
      clear e1
      go_wp2_with fail
      refine (size_to (.mk 7 0 0 ⟨#[]⟩ l) _ w.heap.size _ _ H2.out (RepD.shut (by omega) (by omega) (by omega) (by decide) (HS.out.kept HB3.out)) hs3 H4.out).mono ?_
      rintro e' w4 ⟨rfl, hb4⟩
      have e1 : ((N + 1 : Nat) : Int) = (N : Int) + 1 := by omega
      rw [e1]
      clear e1
      go_wp2
      go_ret
      exact ⟨rfl, Below.next HB3.out hb4⟩
end Go.Proofs.YtlpkpkcfgchngaaDoor

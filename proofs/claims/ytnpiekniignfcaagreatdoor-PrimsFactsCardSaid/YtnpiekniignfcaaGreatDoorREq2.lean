/-
  The contract of corbelref05.Equal: a function that calls itself and counts down in a box.
-/
import Derived.Test.YtnpiekniignfcaaGreatDoorREqual
namespace Go.Proofs.YtnpiekniignfcaaGreatDoor
open Go.RowKit

/-- Two boxes of data above the heap's old size, and a count in an older box. -/
def EqW (w : World) (nb : Nat) (v0 v1 v2 v3 v4 u0 u1 u2 u3 u4 : Value) (c : Int) (W : World) : Prop :=
  Below w.heap.size (setN w nb c) W ∧ Box5 W w.heap.size 26 v0 v1 v2 v3 v4 ∧ Box5 W (w.heap.size + 1) 26 u0 u1 u2 u3 u4
theorem EqW.new (w : World) (nb : Nat) (v0 v1 v2 v3 v4 u0 u1 u2 u3 u4 : Value) (c : Int) :
    EqW w nb v0 v1 v2 v3 v4 u0 u1 u2 u3 u4 c (((setN w nb c).alloc (.cells #[v0, v1, v2, v3, v4] 26)).alloc (.cells #[u0, u1, u2, u3, u4] 26)) := by
  have h1 := (Box5.new (setN w nb c) 26 v0 v1 v2 v3 v4).alloc (.cells #[u0, u1, u2, u3, u4] 26)
  have h2 := Box5.new ((setN w nb c).alloc (.cells #[v0, v1, v2, v3, v4] 26)) 26 u0 u1 u2 u3 u4
  rw [World.size_alloc, setN_size] at h2
  rw [setN_size] at h1
  exact ⟨((Below.refl _ _).alloc (by rw [setN_size]; exact Nat.le_refl _) _).alloc (by simp) _, h1, h2⟩
theorem EqW.next {w W W' : World} {nb : Nat} {v0 v1 v2 v3 v4 u0 u1 u2 u3 u4 v : Value} {t : TypeId} {c c' : Int} (hnb : w.heap[nb]? = some (.cells #[v] t)) (h : EqW w nb v0 v1 v2 v3 v4 u0 u1 u2 u3 u4 c W) (hb : Below W.heap.size (setN W nb c') W') : EqW w nb v0 v1 v2 v3 v4 u0 u1 u2 u3 u4 c' W' := by
  have hlt := (Array.getElem?_eq_some_iff.1 hnb).1
  exact ⟨setN_next hnb h.1 hb, (hb.block _ h.2.1.lt).trans ((setN_ne _ _ _ (by omega)).trans h.2.1), (hb.block _ h.2.2.lt).trans ((setN_ne _ _ _ (by omega)).trans h.2.2)⟩
theorem EqW.below {w W W' : World} {nb : Nat} {v0 v1 v2 v3 v4 u0 u1 u2 u3 u4 : Value} {c : Int} (h : EqW w nb v0 v1 v2 v3 v4 u0 u1 u2 u3 u4 c W) (hb : Below W.heap.size W W') : EqW w nb v0 v1 v2 v3 v4 u0 u1 u2 u3 u4 c W' := by
  have hs := h.1.size
  rw [setN_size] at hs
  exact ⟨h.1.trans (hb.mono hs), (hb.block _ h.2.1.lt).trans h.2.1, (hb.block _ h.2.2.lt).trans h.2.2⟩

theorem eqc_yes2 {k n d k' n' d' : Int} {s s' : ByteArray} {len len' : Nat} {c : Int} (hno : ¬ (0 < c ∧ k = k' ∧ n = n' ∧ d = d' ∧ s = s' ∧ len = len')) (h : 0 ≤ c - 1) (h0 : k = k') (h1 : n = n') (h2 : d = d') (h3 : s.toList = s'.toList) (h4 : ((len : Int) != (len' : Int)) = false) : False := by
  refine hno ⟨by omega, h0, h1, h2, ?_, ?_⟩
  · exact bytes_ext h3
  · have : (len : Int) = len' := by simpa using h4
    omega

set_option maxHeartbeats 4000000 in
set_option maxRecDepth 100000 in
theorem requal_any : ∀ (x y : Dat) (v u : Value) (B nb : Nat) (c : Int) (w : World), 0 ≤ c → c ≤ 1000 → RepD w B x v → RepD w B y u → B ≤ nb → B ≤ w.heap.size → w.heap[nb]? = some (.cells #[.int .i64 c] 3) →
    Calls Tryz.prog 60 #[v, u, .pointer (some ⟨nb, 0, none⟩)] w fun e w' => e = .returned (.bool (Prims.eqc x y c).1) ∧ Below w.heap.size (setN w nb (Prims.eqc x y c).2) w' := by
  intro x
  induction x using Dat.ind with
  | h k n d s l ih =>
    intro y v u B nb c w hc0 hc1 hv hu hnB hB hnb
    obtain ⟨k', n', d', s', l'⟩ := y
    obtain ⟨⟨r, lr⟩, hr⟩ : ∃ r, Prims.eqc (.mk k n d s l) (.mk k' n' d' s' l') c = r := ⟨_, rfl⟩
    rw [hr]
    obtain ⟨sl, rfl, _, _, _, _, hs⟩ := hv.open
    obtain ⟨sm, rfl, _, _, _, _, hs'⟩ := hu.open
    obtain ⟨o, len, cap, rfl, hl, hcap, hmax, hcc⟩ := hs
    obtain ⟨o', len', cap', rfl, hl', hcap', hmax', hcc'⟩ := hs'
    have HL := Lib.hid hl
    have HL' := Lib.hid hl'
    have HC := Lib.hid hcc
    have HC' := Lib.hid hcc'
    have IH := Lib.hid ih
    have HNB := Lib.hid hnb
    obtain ⟨n0, n1, n2⟩ := one_cells hnb
    have HN := Lib.hid (fun v0 v1 v2 v3 v4 u0 u1 u2 u3 u4 => EqW.new w nb v0 v1 v2 v3 v4 u0 u1 u2 u3 u4 (c - 1))
    clear ih hv hu hl hl' hcc hcc' hnb
    by_cases hall : 0 < c ∧ k = k' ∧ n = n' ∧ d = d' ∧ s = s' ∧ len = len'
    · obtain ⟨hcp, rfl, rfl, rfl, rfl, rfl⟩ := hall
      have HQ := Lib.hid (show Prims.eqcL l l' (c - 1) = (r, lr) by rw [← hr, eqc_mk, if_neg (by simp; omega), eqcS, if_pos (by rw [← HL.out, ← HL'.out])])
      have hc2 : decide (c - 1 < 0) = false := decide_eq_false (by omega)
      clear hr
      go_enter Tryz.func60, Tryz.ntmps60
      go_wp2_with fail
      go_loopg [7] len (fun g i wr => ∃ (j : Nat) (cj : Int), g = len - j ∧ j ≤ len ∧ i = .int .i64 j ∧ 0 ≤ cj ∧ cj ≤ 1000 ∧ Hid (Prims.eqcL (l.drop j) (l'.drop j) cj = (r, lr)) ∧ EqW w nb (.int .i64 k) (.int .i64 n) (.int .i64 d) (.string s) (.slice o len cap) (.int .i64 k) (.int .i64 n) (.int .i64 d) (.string s) (.slice o' len cap') cj wr)
      case atStart => exact ⟨0, c - 1, rfl, by omega, rfl, by omega, by omega, by rw [List.drop_zero, List.drop_zero]; exact HQ, HN.out _ _ _ _ _ _ _ _ _ _⟩
      case round =>
        obtain ⟨j, cj, rfl, hj, rfl, hj0, hj1, HA, hw⟩ := hrel
        have HW0 := Lib.hid hw
        have c4 := hw.2.1.cells.2.2.2.2
        have d4 := hw.2.2.cells.2.2.2.2
        have hlb1 := hw.2.1.lt
        have hlb2 := hw.2.2.lt
        have hbB : Below B w wr := setN_below hw.1 hnB hB
        have HB := Lib.hid hbB
        have hnr : wr.heap[nb]? = some (.cells #[.int .i64 cj] 3) := (hw.1.block _ n2).trans (setN_at cj HNB.out)
        have HNR := Lib.hid hnr
        clear hw hbB hnr
        by_cases hjl : j < len
        · obtain ⟨x, hx⟩ : ∃ x, l[j]? = some x := ⟨_, List.getElem?_eq_getElem (by rw [← HL.out]; exact hjl)⟩
          obtain ⟨y, hy⟩ : ∃ y, l'[j]? = some y := ⟨_, List.getElem?_eq_getElem (by rw [← HL'.out]; exact hjl)⟩
          obtain ⟨b1, off1, k1, n1', d1, s1, l1, o1, len1, cap1, ho1, hx1, e0, e1, e2, e3, e4, er⟩ := part_at2 HC.out HB.out hx
          obtain ⟨b2, off2, k2, n2', d2, s2, l2, o2, len2, cap2, ho2, hx2, f0, f1, f2, f3, f4, fr⟩ := part_at2 HC'.out HB.out hy
          subst ho1 ho2 hx1 hx2
          have ER := Lib.hid er
          have FR := Lib.hid fr
          have HX := Lib.hid hx
          have HY := Lib.hid hy
          have hl1 := cell_lt e0
          have hl2 := cell_lt f0
          have HBD := Lib.hid (eqc_bd (.mk k1 n1' d1 s1 l1) (.mk k2 n2' d2 s2 l2) cj hj0)
          have HCR := Lib.hid ((eqcL_step HX.out HY.out).symm.trans HA.out)
          obtain ⟨⟨q, lq⟩, hq⟩ : ∃ q, Prims.eqc (.mk k1 n1' d1 s1 l1) (.mk k2 n2' d2 s2 l2) cj = q := ⟨_, rfl⟩
          rw [hq] at HBD HCR
          have HQQ := Lib.hid hq
          have HD := Lib.hid ((Below.refl wr.heap.size wr).drew)
          clear hx hy er fr hq
          go_wp2_with fail
          refine wp_region_quiet_class (Below wr.heap.size wr) 11 (by kernel_rfl) (by kernel_rfl) HD.out ?_
          intro T _ W HW HW2
          have g4 : ∀ t, (W t).cell? ⟨w.heap.size, 4, none⟩ = some (.slice (some ⟨b1, off1, none⟩) len cap) := fun t => ((HW t).cell (p := ⟨w.heap.size, 4, none⟩) hlb1).trans c4
          have h4 : ∀ t, (W t).cell? ⟨w.heap.size + 1, 4, none⟩ = some (.slice (some ⟨b2, off2, none⟩) len cap') := fun t => ((HW t).cell (p := ⟨w.heap.size + 1, 4, none⟩) hlb2).trans d4
          have g0 : ∀ t, (W t).cell? _ = _ := fun t => ((HW t).cell (p := ⟨b1, off1 + j * 5, none⟩) hl1).trans e0
          have g1 : ∀ t, (W t).cell? _ = _ := fun t => ((HW t).cell (p := ⟨b1, off1 + j * 5 + 1, none⟩) hl1).trans e1
          have g2 : ∀ t, (W t).cell? _ = _ := fun t => ((HW t).cell (p := ⟨b1, off1 + j * 5 + 2, none⟩) hl1).trans e2
          have g3 : ∀ t, (W t).cell? _ = _ := fun t => ((HW t).cell (p := ⟨b1, off1 + j * 5 + 3, none⟩) hl1).trans e3
          have g5 : ∀ t, (W t).cell? _ = _ := fun t => ((HW t).cell (p := ⟨b1, off1 + j * 5 + 4, none⟩) hl1).trans e4
          have j0 : ∀ t, (W t).cell? _ = _ := fun t => ((HW t).cell (p := ⟨b2, off2 + j * 5, none⟩) hl2).trans f0
          have j1 : ∀ t, (W t).cell? _ = _ := fun t => ((HW t).cell (p := ⟨b2, off2 + j * 5 + 1, none⟩) hl2).trans f1
          have j2 : ∀ t, (W t).cell? _ = _ := fun t => ((HW t).cell (p := ⟨b2, off2 + j * 5 + 2, none⟩) hl2).trans f2
          have j3 : ∀ t, (W t).cell? _ = _ := fun t => ((HW t).cell (p := ⟨b2, off2 + j * 5 + 3, none⟩) hl2).trans f3
          have j5 : ∀ t, (W t).cell? _ = _ := fun t => ((HW t).cell (p := ⟨b2, off2 + j * 5 + 4, none⟩) hl2).trans f4
          have HWH := Lib.hid HW
          clear HW HW2
          simp only [List.take_succ_cons, List.take_zero, List.drop_succ_cons, List.drop_zero]
          repeat (go_big_quiet_step (fail))
          refine wpQuiet_nil ?_
          intro t
          have HCC := Lib.hid (IH.out (.mk k1 n1' d1 s1 l1) (List.mem_of_getElem? HX.out) (.mk k2 n2' d2 s2 l2) (.agg #[.int .i64 k1, .int .i64 n1', .int .i64 d1, .string s1, .slice o1 len1 cap1]) (.agg #[.int .i64 k2, .int .i64 n2', .int .i64 d2, .string s2, .slice o2 len2 cap2]) B nb cj (W t) hj0 hj1 (ER.out.kept (Below.mono (HWH.out t) (by have := HB.out.size; omega))) (FR.out.kept (Below.mono (HWH.out t) (by have := HB.out.size; omega))) hnB (by have := (HWH.out t).size; have := HB.out.size; omega) (((HWH.out t).block _ (Array.getElem?_eq_some_iff.1 HNR.out).1).trans HNR.out))
          rw [HQQ.out] at HCC
          have HW1 := Lib.hid (HW0.out.below (HWH.out t))
          cases q with
          | true =>
            have HT := Lib.hid (show Prims.eqcL (l.drop (j + 1)) (l'.drop (j + 1)) lq = (r, lr) by rw [← HCR.out]; simp)
            have hb2 := HBD.out.2.1
            have hb3 : 0 ≤ lq := HBD.out.2.2 rfl
            clear HCR HBD
            go_wp2_with fail
            refine HCC.out.mono ?_
            rintro e1 w1 ⟨rfl, hb1⟩
            go_wp2_with fail
            go_roundg (len - (j + 1))
            case measure => omega
            case rel => exact ⟨j + 1, lq, rfl, by omega, by go_num, hb3, by omega, HT, HW1.out.next HNB.out hb1⟩
          | false =>
            have HT := Lib.hid (show (false, lq) = (r, lr) by rw [← HCR.out]; simp)
            clear HCR HBD
            go_wp2_with fail
            refine HCC.out.mono ?_
            rintro e1 w1 ⟨rfl, hb1⟩
            go_wp2_with fail
            go_ret
            have hT := HT.out
            simp only [Prod.mk.injEq] at hT
            obtain ⟨rfl, rfl⟩ := hT
            exact ⟨rfl, (HW1.out.next HNB.out hb1).1⟩
        · obtain rfl : j = len := by omega
          have HT := Lib.hid (show (true, cj) = (r, lr) by rw [← HA.out, List.drop_of_length_le (by rw [← HL.out]; exact Nat.le_refl _), Prims.eqcL]; intros; simp_all)
          clear HA
          go_wp2_with fail
          go_ret
          have hT := HT.out
          simp only [Prod.mk.injEq] at hT
          obtain ⟨rfl, rfl⟩ := hT
          exact ⟨rfl, HW0.out.1⟩
    · have HF := Lib.hid (show (false, c - 1) = (r, lr) by
        rw [← hr, Prims.eqc, if_pos]
        by_cases h0 : c ≤ 0
        · exact .inl h0
        · exact .inr (fun hh => hall ⟨by omega, hh.1, hh.2.1, hh.2.2.1, hh.2.2.2.1, by rw [HL.out, HL'.out]; exact hh.2.2.2.2⟩))
      have HNO := Lib.hid hall
      clear hall hr
      go_enter Tryz.func60, Tryz.ntmps60
      go_wp2_with fail
      all_goals first
        | (go_ret; have hT := HF.out; simp only [Prod.mk.injEq] at hT; obtain ⟨rfl, rfl⟩ := hT; exact ⟨rfl, (HN.out _ _ _ _ _ _ _ _ _ _).1⟩)
        | exact (eqc_yes2 HNO.out (by assumption) (by assumption) (by assumption) (by assumption) (by assumption) (by assumption)).elim
        | exact (eqc_yes2 HNO.out (‹0 ≤ c - 1 ∧ _›).1 (by assumption) (by assumption) (by assumption) (by assumption) (‹0 ≤ c - 1 ∧ _›).2).elim
        | fail
end Go.Proofs.YtnpiekniignfcaaGreatDoor

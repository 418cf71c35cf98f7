/-
  The walk of DatumItems.
-/
import Derived.Test.YtlpkpkcfgchngaaDoorPartsW
import Derived.Test.YtlpkpkcfgchngaaDoorItems
import Derived.Test.YtlpkpkcfgchngaaDoorEqual
namespace Go.Proofs.YtlpkpkcfgchngaaDoor
open Go.RowKit

theorem same_self (x : Dat) (v u : Value) (B : Nat) (w : World) (hr : Dat.right x 0 = true) (hv : RepD w B x v) (hu : RepD w B x u) (hB : B ≤ w.heap.size) :
    Calls Tryd.prog 14 #[v, u] w fun e w' => e = .returned (.bool true) ∧ Below w.heap.size w w' := by
  have := same_any x x v u B w hv hu hB
  rw [hr, Dat.alike_self] at this
  exact this

set_option maxHeartbeats 4000000 in
set_option maxRecDepth 100000 in
theorem datumItems_walk (l : List Dat) (sl : Value) (w : World) (hv : RepS w w.heap.size l sl) (hE : Env w) :
    Calls Tryd.prog 6 #[sl] w fun e w' => e = .returned (.bool true) ∧ Below w.heap.size w w' := by
  have HS := Lib.hid hv
  obtain ⟨o, len, cap, rfl, hl, hcap, hmax, hc⟩ := hv
  have HV := Lib.hid hc
  have HL := Lib.hid hl
  clear hc hl
  go_enter Tryd.func6, Tryd.ntmps6
  go_wp2_with fail
  refine (awake2_any w hE).mono ?_
  rintro e' w1 ⟨rfl, hb1⟩
  by_cases hlen : 100 < len
  · go_wp2
    go_ret
    exact ⟨rfl, hb1⟩
  have HB1 := Lib.hid hb1
  clear hb1
  obtain ⟨rl, hrl⟩ : ∃ rl, Dat.right (Dat.list l) 0 = rl := ⟨_, rfl⟩
  have HRL := Lib.hid hrl
  clear hrl
  go_wp2_with fail
  go_loopg [4] len (fun g i wr => ∃ j : Nat, g = len - j ∧ j ≤ len ∧ i = .int .i64 j ∧ (∀ x ∈ l.take j, Dat.right x 0 = true ∧ rl = true) ∧ Below w.heap.size w wr)
  case atStart => exact ⟨0, rfl, by omega, rfl, by simp, HB1.out⟩
  case round =>
    obtain ⟨j, rfl, hj, rfl, hall, hb⟩ := hrel
    have HA := Lib.hid hall
    have hsz := hb.size
    have HB := Lib.hid hb
    clear hall hb
    by_cases hjl : j < len
    · obtain ⟨x, hx⟩ : ∃ x, l[j]? = some x := ⟨_, List.getElem?_eq_getElem (by rw [← HL.out]; exact hjl)⟩
      obtain ⟨bb, off, k', n', d', s', l', o', len', cap', ho, hxe, e0, e1, e2, e3, e4, er⟩ := part_at2 HV.out HB.out hx
      subst ho hxe
      have HX := Lib.hid hx
      have ER := Lib.hid er
      clear hx er
      have hbb := cell_lt e0
      obtain ⟨y, hy⟩ : ∃ y, Dat.all (.mk k' n' d' s' l') = y := ⟨_, rfl⟩
      have HY := Lib.hid hy
      clear hy
      by_cases h100 : y ≤ 100
      · go_wp2_with fail
        refine (lfew_to _ _ 100 w.heap.size _ true (by rw [HY.out]; exact decide_eq_true (by omega)) ER.out hsz (by omega) (by omega)).mono ?_
        rintro e' w2 ⟨rfl, hb2⟩
        have g : ∀ o, w2.cell? ⟨bb, o, none⟩ = wr.cell? ⟨bb, o, none⟩ := fun o => hb2.cell (p := ⟨bb, o, none⟩) hbb
        have f0 := (g _).trans e0
        have f1 := (g _).trans e1
        have f2 := (g _).trans e2
        have f3 := (g _).trans e3
        have f4 := (g _).trans e4
        have HB2 := Lib.hid (Below.next HB.out hb2)
        have HK2 := Lib.hid hb2
        have hs2 := hb2.size
        clear g hb2
        obtain ⟨rx, hrx⟩ : ∃ rx, Dat.right (.mk k' n' d' s' l') 0 = rx := ⟨_, rfl⟩
        have HRX := Lib.hid hrx
        clear hrx
        go_wp2_with fail
        refine (dright_to _ _ w.heap.size _ rx HRX.out (ER.out.kept (HK2.out.mono hsz)) (by omega)).mono ?_
        rintro e' w3 ⟨rfl, hb3⟩
        have HB3 := Lib.hid (Below.next HB2.out hb3)
        have hs3 := hb3.size
        clear hb3
        cases rx with
        | false =>
          go_wp2
          go_ret
          exact ⟨rfl, HB3.out⟩
        | true =>
          go_wp2_with fail
          refine (list_any l _ w.heap.size _ (HS.out.kept HB3.out) (by omega)).mono ?_
          rintro e' w4 ⟨v2, rfl, hr2, hb4⟩
          obtain ⟨k2, n2, d2, s2, o2, len2, cap2, rfl⟩ := agg_of hr2
          have HR2 := Lib.hid hr2
          have HB4 := Lib.hid (Below.next HB3.out hb4)
          clear hr2 hb4
          go_wp2_with fail
          refine (dright_to _ _ _ _ rl HRL.out HR2.out (Nat.le_refl _)).mono ?_
          rintro e' w5 ⟨rfl, hb5⟩
          have HB5 := Lib.hid (Below.next HB4.out hb5)
          clear hb5
          cases rl with
          | false =>
            go_wp2
            go_ret
            exact ⟨rfl, HB5.out⟩
          | true =>
            go_wp2_with fail
            go_roundg (len - (j + 1))
            case measure => omega
            case rel =>
              refine ⟨j + 1, rfl, by omega, by go_num, ?_, HB5.out⟩
              intro x hx
              rw [List.take_add_one, HX.out] at hx
              rcases List.mem_append.1 hx with h | h
              · exact HA.out x h
              · simp only [Option.toList_some, List.mem_singleton] at h
                rw [h]; exact ⟨HRX.out, by trivial⟩
      · go_wp2_with fail
        refine (lfew_to _ _ 100 w.heap.size _ false (by rw [HY.out]; exact decide_eq_false (by omega)) ER.out hsz (by omega) (by omega)).mono ?_
        rintro e' w2 ⟨rfl, hb2⟩
        go_wp2
        go_ret
        exact ⟨rfl, Below.next HB.out hb2⟩
    · obtain rfl : j = len := by omega
      have hLt : l.take j = l := List.take_of_length_le (by rw [← HL.out]; omega)
      rw [hLt] at HA
      have hRL2 : Dat.right (Dat.list l) 0 = true := by
        cases l with
        | nil => decide
        | cons x l => rw [HRL.out]; exact (HA.out x (by simp)).2
      have HR0 := Lib.hid hRL2
      clear hLt hRL2
      go_wp2_with fail
      refine (list_any l _ w.heap.size _ (HS.out.kept HB.out) hsz).mono ?_
      rintro e' w2 ⟨v2, rfl, hr2, hb2⟩
      obtain ⟨k2, n2, d2, s2, o2, len2, cap2, rfl⟩ := agg_of hr2
      have HR2 := Lib.hid hr2
      have HB2 := Lib.hid (Below.next HB.out hb2)
      clear hr2 hb2
      go_wp2_with fail
      refine (items_any _ _ _ _ HR2.out (Nat.le_refl _)).mono ?_
      rw [if_pos HR0.out, Dat.items_list]
      rintro e' w3 ⟨v3, l3, rfl, hl3, hr3, hb3⟩
      obtain rfl : l3 = l := hl3
      have HS3 := Lib.hid hr3
      obtain ⟨o3, len3, cap3, rfl, hl3', hcap3, hmax3, hc3⟩ := hr3
      obtain rfl : len3 = j := by rw [hl3', HL.out]
      have HV3 := Lib.hid hc3
      have HB3 := Lib.hid (Below.next HB2.out hb3)
      have hs3 := HB3.out.size
      clear hb3 hc3 hl3'
      have HBase := Lib.hid (Below.refl w3.heap.size w3)
      go_wp2_with fail
      go_loopg [7] len3 (fun g i wr => ∃ q : Nat, g = len3 - q ∧ q ≤ len3 ∧ i = .int .i64 q ∧ Below w3.heap.size w3 wr)
      case atStart => exact ⟨0, rfl, by omega, rfl, HBase.out⟩
      case round =>
        obtain ⟨q, rfl, hq, rfl, hb⟩ := hrel
        have hsz := hb.size
        have HB := Lib.hid hb
        clear hb
        have hB2 := Lib.hid (Below.next HB3.out HB.out)
        by_cases hql : q < len3
        · obtain ⟨x, hx⟩ : ∃ x, l3[q]? = some x := ⟨_, List.getElem?_eq_getElem (by rw [← HL.out]; exact hql)⟩
          obtain ⟨b1, off1, k1, n1, d1, s1, l1, o1, len1, cap1, ho1, hx1, e0, e1, e2, e3, e4, er⟩ := part_at2 HV3.out HB.out hx
          obtain ⟨b4, off4, k4, n4, d4, s4, l4, o4, len4, cap4, ho4, hx4, f0, f1, f2, f3, f4, fr⟩ := part_at2 HV.out hB2.out hx
          subst ho1 ho4 hx1
          have hxr : Dat.right (.mk k1 n1 d1 s1 l1) 0 = true := (HA.out _ (List.mem_of_getElem? hx)).1
          have HXR := Lib.hid hxr
          have ER := Lib.hid er
          have FR := Lib.hid fr
          rw [← hx4] at FR
          have hl1 := cell_lt e0
          have hl4 := cell_lt f0
          have HD := Lib.hid ((Below.refl wr.heap.size wr).drew)
          clear hx er fr hx4 hxr
          go_wp2_with fail
          refine wp_region_quiet_class (Below wr.heap.size wr) 9 (by kernel_rfl) (by kernel_rfl) HD.out ?_
          intro T _ W HW HW2
          have g0 : ∀ t, (W t).cell? _ = _ := fun t => ((HW t).cell (p := ⟨b1, off1 + q * 5, none⟩) hl1).trans e0
          have g1 : ∀ t, (W t).cell? _ = _ := fun t => ((HW t).cell (p := ⟨b1, off1 + q * 5 + 1, none⟩) hl1).trans e1
          have g2 : ∀ t, (W t).cell? _ = _ := fun t => ((HW t).cell (p := ⟨b1, off1 + q * 5 + 2, none⟩) hl1).trans e2
          have g3 : ∀ t, (W t).cell? _ = _ := fun t => ((HW t).cell (p := ⟨b1, off1 + q * 5 + 3, none⟩) hl1).trans e3
          have g4 : ∀ t, (W t).cell? _ = _ := fun t => ((HW t).cell (p := ⟨b1, off1 + q * 5 + 4, none⟩) hl1).trans e4
          have j0 : ∀ t, (W t).cell? _ = _ := fun t => ((HW t).cell (p := ⟨b4, off4 + q * 5, none⟩) hl4).trans f0
          have j1 : ∀ t, (W t).cell? _ = _ := fun t => ((HW t).cell (p := ⟨b4, off4 + q * 5 + 1, none⟩) hl4).trans f1
          have j2 : ∀ t, (W t).cell? _ = _ := fun t => ((HW t).cell (p := ⟨b4, off4 + q * 5 + 2, none⟩) hl4).trans f2
          have j3 : ∀ t, (W t).cell? _ = _ := fun t => ((HW t).cell (p := ⟨b4, off4 + q * 5 + 3, none⟩) hl4).trans f3
          have j4 : ∀ t, (W t).cell? _ = _ := fun t => ((HW t).cell (p := ⟨b4, off4 + q * 5 + 4, none⟩) hl4).trans f4
          have hC : ∀ t, Calls Tryd.prog 14 #[.agg #[.int .i64 k1, .int .i64 n1, .int .i64 d1, .string s1, .slice o1 len1 cap1], .agg #[.int .i64 k4, .int .i64 n4, .int .i64 d4, .string s4, .slice o4 len4 cap4]] (W t) fun e w' => e = .returned (.bool true) ∧ ∃ t', w' = W t' := fun t => (same_self (.mk k1 n1 d1 s1 l1) _ _ w3.heap.size (W t) HXR.out (ER.out.kept (Below.mono (HW t) hsz)) ((FR.out.wider HB3.out.size).kept (Below.mono (HW t) hsz)) (Nat.le_trans hsz (HW t).size)).mono fun e w' h => ⟨h.1, HW2 _ (Below.next (HW t) h.2)⟩
          have HC := Lib.hid hC
          clear hC
          have HWH := Lib.hid HW
          clear HW HW2
          simp only [List.take_succ_cons, List.take_zero, List.drop_succ_cons, List.drop_zero]
          repeat (go_big_quiet_step (first | (go_at_call 14; exact HC.out _)))
          refine wpQuiet_nil ?_
          intro t
          go_wp2_with fail
          go_roundg (len3 - (q + 1))
          case measure => omega
          case rel => exact ⟨q + 1, rfl, by omega, by go_num, Below.next HB.out (HWH.out t)⟩
        · go_wp2_with fail
          go_ret
          exact ⟨rfl, hB2.out⟩
end Go.Proofs.YtlpkpkcfgchngaaDoor

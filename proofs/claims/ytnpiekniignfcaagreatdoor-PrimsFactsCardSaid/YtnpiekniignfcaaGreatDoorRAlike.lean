/-
  The contracts of corbelref02.Alike and Same.
-/
import Derived.Test.YtnpiekniignfcaaGreatDoorRName
import Derived.Test.YtnpiekniignfcaaGreatDoorSames
import Derived.Test.YtnpiekniignfcaaGreatDoorWalks2
namespace Go.Proofs.YtnpiekniignfcaaGreatDoor
open Go.RowKit

theorem bytes_ext {s s' : ByteArray} (h : s.toList = s'.toList) : s = s' := by
  apply ByteArray.ext; apply Array.ext'
  rw [← ByteArray.toList_eq, ← ByteArray.toList_eq]; exact h

theorem ralike_no {k n d k' n' d' : Int} {s s' : ByteArray} {l l' : List Dat} {r : Bool} (h : ((decide (k = k') && (decide (n = n') && (decide (d = d') && decide (s = s')))) && all2 Dat.alike l l') = r)
    (hno : ¬ (k = k' ∧ n = n' ∧ d = d' ∧ s = s' ∧ l.length = l'.length)) : false = r := by
  cases r with
  | false => rfl
  | true =>
    simp only [Bool.and_eq_true, decide_eq_true_eq] at h
    exact absurd ⟨h.1.1, h.1.2.1, h.1.2.2.1, h.1.2.2.2, all2_len h.2⟩ hno

theorem ralike_yes {k n d k' n' d' : Int} {s s' : ByteArray} {len len' : Nat} (hno : ¬ (k = k' ∧ n = n' ∧ d = d' ∧ s = s' ∧ len = len')) (h0 : k = k') (h1 : n = n') (h2 : d = d') (h3 : s.toList = s'.toList) (h4 : ((len : Int) != (len' : Int)) = false) : False := by
  refine hno ⟨h0, h1, h2, bytes_ext h3, ?_⟩
  have : (len : Int) = len' := by simpa using h4
  omega

set_option maxHeartbeats 4000000 in
set_option maxRecDepth 100000 in
theorem ralike_any : ∀ (x y : Dat) (v u : Value) (B : Nat) (w : World), RepD w B x v → RepD w B y u → B ≤ w.heap.size →
    Calls Tryz.prog 14 #[v, u] w fun e w' => e = .returned (.bool (Dat.alike x y)) ∧ Below w.heap.size w w' := by
  intro x
  induction x using Dat.ind with
  | h k n d s l ih =>
    intro y v u B w hv hu hB
    obtain ⟨k', n', d', s', l'⟩ := y
    obtain ⟨r, hr⟩ : ∃ r, Dat.alike (.mk k n d s l) (.mk k' n' d' s' l') = r := ⟨_, rfl⟩
    rw [hr]
    rw [Dat.alike, alikeL_all2] at hr
    have HR := Lib.hid hr
    obtain ⟨sl, rfl, _, _, _, _, hs⟩ := hv.open
    obtain ⟨sm, rfl, _, _, _, _, hs'⟩ := hu.open
    obtain ⟨o, len, cap, rfl, hl, hcap, hmax, hc⟩ := hs
    obtain ⟨o', len', cap', rfl, hl', hcap', hmax', hc'⟩ := hs'
    have HL := Lib.hid hl
    have HL' := Lib.hid hl'
    have HC := Lib.hid hc
    have HC' := Lib.hid hc'
    have IH := Lib.hid ih
    clear ih hv hu hl hl' hc hc'
    have HK := Lib.hid (fun X Y => ((Below.refl w.heap.size w).alloc (Nat.le_refl _) X).alloc (by simp) Y)
    by_cases hall : k = k' ∧ n = n' ∧ d = d' ∧ s = s' ∧ len = len'
    · obtain ⟨rfl, rfl, rfl, rfl, rfl⟩ := hall
      have HQ := Lib.hid (show all2 Dat.alike l l' = r by rw [← hr]; simp)
      clear hr HR
      have HT := Lib.hid (show Two w #[.int .i64 k, .int .i64 n, .int .i64 d, .string s, .slice o len cap] 26 #[.int .i64 k, .int .i64 n, .int .i64 d, .string s, .slice o' len cap'] _ from Below.refl _ _)
      go_enter Tryz.func14, Tryz.ntmps14
      go_wp2_with fail
      go_loopg [5] len (fun g i wr => ∃ j : Nat, g = len - j ∧ j ≤ len ∧ i = .int .i64 j ∧ (∀ (q : Nat) (x y : Dat), q < j → l[q]? = some x → l'[q]? = some y → Dat.alike x y = true) ∧ Two w #[.int .i64 k, .int .i64 n, .int .i64 d, .string s, .slice o len cap] 26 #[.int .i64 k, .int .i64 n, .int .i64 d, .string s, .slice o' len cap'] wr)
      case atStart => exact ⟨0, rfl, by omega, rfl, fun q x y h => absurd h (by omega), HT.out⟩
      case round =>
        obtain ⟨j, rfl, hj, rfl, hq, ht⟩ := hrel
        have HQ2 := Lib.hid hq
        have HTW := Lib.hid ht
        have c4 := ht.cell 4 (v := .slice o len cap) rfl
        have d4 := ht.cell2 4 (v := .slice o' len cap') rfl
        have hb : Below w.heap.size w wr := (HK.out _ _).trans (Below.mono ht (by omega))
        have HB := Lib.hid hb
        have hsz := ht.size
        clear hq ht hb
        by_cases hjl : j < len
        · obtain ⟨x, hx⟩ : ∃ x, l[j]? = some x := ⟨_, List.getElem?_eq_getElem (by rw [← HL.out]; exact hjl)⟩
          obtain ⟨y, hy⟩ : ∃ y, l'[j]? = some y := ⟨_, List.getElem?_eq_getElem (by rw [← HL'.out]; exact hjl)⟩
          obtain ⟨b1, off1, k1, n1, d1, s1, l1, o1, len1, cap1, ho1, hx1, e0, e1, e2, e3, e4, er⟩ := part_at2 HC.out (HB.out.mono hB) hx
          obtain ⟨b2, off2, k2, n2, d2, s2, l2, o2, len2, cap2, ho2, hx2, f0, f1, f2, f3, f4, fr⟩ := part_at2 HC'.out (HB.out.mono hB) hy
          subst ho1 ho2 hx1 hx2
          have ER := Lib.hid er
          have FR := Lib.hid fr
          have HX := Lib.hid hx
          have HY := Lib.hid hy
          have hl1 := cell_lt e0
          have hl2 := cell_lt f0
          have hlb1 := cell_lt c4
          have hlb2 := cell_lt d4
          obtain ⟨q, hq⟩ : ∃ q, Dat.alike (.mk k1 n1 d1 s1 l1) (.mk k2 n2 d2 s2 l2) = q := ⟨_, rfl⟩
          have HQQ := Lib.hid hq
          have HD := Lib.hid ((Below.refl wr.heap.size wr).drew)
          clear hx hy er fr hq
          go_wp2_with fail
          refine wp_region_quiet_class (Below wr.heap.size wr) 11 (by kernel_rfl) (by kernel_rfl) HD.out ?_
          intro T _ W HW HW2
          have g4 : ∀ t, (W t).cell? ⟨w.heap.size, 4, none⟩ = some (.slice (some ⟨b1, off1, none⟩) len cap) := fun t => ((HW t).cell (p := ⟨w.heap.size, 4, none⟩) hlb1).trans c4
          have h4 : ∀ t, (W t).cell? ⟨w.heap.size + 1, 4, none⟩ = some (.slice (some ⟨b2, off2, none⟩) len cap') := fun t => ((HW t).cell (p := ⟨w.heap.size + 1, 4, none⟩) hlb2).trans d4
          have g0 : ∀ t, (W t).cell? _ = _ := fun t => ((HW t).cell (p := ⟨b1, off1 + j * 5, none⟩) hl1).trans e0
          have g1 : ∀ t, (W t).cell? _ = _ := fun t => ((HW t).cell (p := ⟨b1, off1 + j * 5 + 1, none⟩) hl1).trans e1
          have g2 : ∀ t, (W t).cell? _ = _ := fun t => ((HW t).cell (p := ⟨b1, off1 + j * 5 + 2, none⟩) hl1).trans e2
          have g3 : ∀ t, (W t).cell? _ = _ := fun t => ((HW t).cell (p := ⟨b1, off1 + j * 5 + 3, none⟩) hl1).trans e3
          have g5 : ∀ t, (W t).cell? _ = _ := fun t => ((HW t).cell (p := ⟨b1, off1 + j * 5 + 4, none⟩) hl1).trans e4
          have j0 : ∀ t, (W t).cell? _ = _ := fun t => ((HW t).cell (p := ⟨b2, off2 + j * 5, none⟩) hl2).trans f0
          have j1 : ∀ t, (W t).cell? _ = _ := fun t => ((HW t).cell (p := ⟨b2, off2 + j * 5 + 1, none⟩) hl2).trans f1
          have j2 : ∀ t, (W t).cell? _ = _ := fun t => ((HW t).cell (p := ⟨b2, off2 + j * 5 + 2, none⟩) hl2).trans f2
          have j3 : ∀ t, (W t).cell? _ = _ := fun t => ((HW t).cell (p := ⟨b2, off2 + j * 5 + 3, none⟩) hl2).trans f3
          have j5 : ∀ t, (W t).cell? _ = _ := fun t => ((HW t).cell (p := ⟨b2, off2 + j * 5 + 4, none⟩) hl2).trans f4
          have hC : ∀ t, Calls Tryz.prog 14 #[.agg #[.int .i64 k1, .int .i64 n1, .int .i64 d1, .string s1, .slice o1 len1 cap1], .agg #[.int .i64 k2, .int .i64 n2, .int .i64 d2, .string s2, .slice o2 len2 cap2]] (W t) fun e w' => e = .returned (.bool q) ∧ ∃ t', w' = W t' := fun t => by
            have := IH.out (.mk k1 n1 d1 s1 l1) (List.mem_of_getElem? HX.out) (.mk k2 n2 d2 s2 l2) _ _ B (W t) (ER.out.kept (Below.mono (HW t) (by omega))) (FR.out.kept (Below.mono (HW t) (by omega))) (by have := (HW t).size; omega)
            rw [HQQ.out] at this
            exact this.mono fun e w' h => ⟨h.1, HW2 _ (Below.next (HW t) h.2)⟩
          have HCC := Lib.hid hC
          have HWH := Lib.hid HW
          clear HW HW2 hC
          simp only [List.take_succ_cons, List.take_zero, List.drop_succ_cons, List.drop_zero]
          repeat (go_big_quiet_step (first | (go_at_call 14; exact HCC.out _) | fail))
          refine wpQuiet_nil ?_
          intro t
          cases q with
          | true =>
            go_wp2_with fail
            go_roundg (len - (j + 1))
            case measure => omega
            case rel =>
              refine ⟨j + 1, rfl, by omega, by go_num, ?_, Two.next HTW.out (HWH.out t)⟩
              intro p x y hp hx hy
              by_cases hpj : p < j
              · exact HQ2.out p x y hpj hx hy
              · obtain rfl : p = j := by omega
                obtain rfl := Option.some.inj (hx.symm.trans HX.out)
                obtain rfl := Option.some.inj (hy.symm.trans HY.out)
                exact HQQ.out
          | false =>
            have HF := Lib.hid (show r = false by rw [← HQ.out]; exact all2_false HX.out HY.out HQQ.out)
            go_wp2_with fail
            go_ret
            exact ⟨ret_bool HF.out.symm, Below.next HB.out (HWH.out t)⟩
        · obtain rfl : j = len := by omega
          have HF := Lib.hid (show r = true by
            rw [← HQ.out]
            refine all2_all (by rw [← HL.out, ← HL'.out]) fun i x y hx hy => HQ2.out i x y ?_ hx hy
            have := (List.getElem?_eq_some_iff.1 hx).1
            rw [HL.out]; exact this)
          go_wp2_with fail
          go_ret
          exact ⟨ret_bool HF.out.symm, HB.out⟩
    · have hno : ¬ (k = k' ∧ n = n' ∧ d = d' ∧ s = s' ∧ l.length = l'.length) := by rw [← HL.out, ← HL'.out]; exact hall
      have HF := Lib.hid (ralike_no HR.out hno)
      have HNO := Lib.hid hall
      clear hno hall hr
      go_enter Tryz.func14, Tryz.ntmps14
      go_wp2_with fail
      all_goals first
        | (go_ret; exact ⟨ret_bool HF.out, HK.out _ _⟩)
        | exact (ralike_yes HNO.out (by assumption) (by assumption) (by assumption) (by assumption) (by assumption)).elim
        | fail

theorem ralike_to (x y : Dat) (v u : Value) (B : Nat) (w : World) (r : Bool) (hr : Dat.alike x y = r) (hv : RepD w B x v) (hu : RepD w B y u) (hB : B ≤ w.heap.size) :
    Calls Tryz.prog 14 #[v, u] w fun e w' => e = .returned (.bool r) ∧ Below w.heap.size w w' := by
  rw [← hr]; exact ralike_any x y v u B w hv hu hB
end Go.Proofs.YtnpiekniignfcaaGreatDoor

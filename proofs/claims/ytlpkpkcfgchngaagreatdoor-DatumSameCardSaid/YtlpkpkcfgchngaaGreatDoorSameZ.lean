/-
  The contract of corbelref02.Same, and the walk of DatumSame.
-/
import Derived.Test.YtlpkpkcfgchngaaGreatDoorRList
namespace Go.Proofs.YtlpkpkcfgchngaaGreatDoor
open Go.RowKit

theorem act_open40 {a : Act} (h : a.tmps.size = 40) (hd : a.defers = []) : ∃ x0 x1 x2 x3 x4 x5 x6 x7 x8 x9 x10 x11 x12 x13 x14 x15 x16 x17 x18 x19 x20 x21 x22 x23 x24 x25 x26 x27 x28 x29 x30 x31 x32 x33 x34 x35 x36 x37 x38 x39, a = { tmps := #[x0, x1, x2, x3, x4, x5, x6, x7, x8, x9, x10, x11, x12, x13, x14, x15, x16, x17, x18, x19, x20, x21, x22, x23, x24, x25, x26, x27, x28, x29, x30, x31, x32, x33, x34, x35, x36, x37, x38, x39], defers := [] } := by
  obtain ⟨⟨l⟩, d⟩ := a
  simp only at hd
  subst hd
  replace h : l.length = 40 := h
  obtain ⟨x0, l, rfl⟩ := List.exists_cons_of_length_eq_add_one h
  replace h : l.length = 39 := Nat.succ.inj h
  obtain ⟨x1, l, rfl⟩ := List.exists_cons_of_length_eq_add_one h
  replace h : l.length = 38 := Nat.succ.inj h
  obtain ⟨x2, l, rfl⟩ := List.exists_cons_of_length_eq_add_one h
  replace h : l.length = 37 := Nat.succ.inj h
  obtain ⟨x3, l, rfl⟩ := List.exists_cons_of_length_eq_add_one h
  replace h : l.length = 36 := Nat.succ.inj h
  obtain ⟨x4, l, rfl⟩ := List.exists_cons_of_length_eq_add_one h
  replace h : l.length = 35 := Nat.succ.inj h
  obtain ⟨x5, l, rfl⟩ := List.exists_cons_of_length_eq_add_one h
  replace h : l.length = 34 := Nat.succ.inj h
  obtain ⟨x6, l, rfl⟩ := List.exists_cons_of_length_eq_add_one h
  replace h : l.length = 33 := Nat.succ.inj h
  obtain ⟨x7, l, rfl⟩ := List.exists_cons_of_length_eq_add_one h
  replace h : l.length = 32 := Nat.succ.inj h
  obtain ⟨x8, l, rfl⟩ := List.exists_cons_of_length_eq_add_one h
  replace h : l.length = 31 := Nat.succ.inj h
  obtain ⟨x9, l, rfl⟩ := List.exists_cons_of_length_eq_add_one h
  replace h : l.length = 30 := Nat.succ.inj h
  obtain ⟨x10, l, rfl⟩ := List.exists_cons_of_length_eq_add_one h
  replace h : l.length = 29 := Nat.succ.inj h
  obtain ⟨x11, l, rfl⟩ := List.exists_cons_of_length_eq_add_one h
  replace h : l.length = 28 := Nat.succ.inj h
  obtain ⟨x12, l, rfl⟩ := List.exists_cons_of_length_eq_add_one h
  replace h : l.length = 27 := Nat.succ.inj h
  obtain ⟨x13, l, rfl⟩ := List.exists_cons_of_length_eq_add_one h
  replace h : l.length = 26 := Nat.succ.inj h
  obtain ⟨x14, l, rfl⟩ := List.exists_cons_of_length_eq_add_one h
  replace h : l.length = 25 := Nat.succ.inj h
  obtain ⟨x15, l, rfl⟩ := List.exists_cons_of_length_eq_add_one h
  replace h : l.length = 24 := Nat.succ.inj h
  obtain ⟨x16, l, rfl⟩ := List.exists_cons_of_length_eq_add_one h
  replace h : l.length = 23 := Nat.succ.inj h
  obtain ⟨x17, l, rfl⟩ := List.exists_cons_of_length_eq_add_one h
  replace h : l.length = 22 := Nat.succ.inj h
  obtain ⟨x18, l, rfl⟩ := List.exists_cons_of_length_eq_add_one h
  replace h : l.length = 21 := Nat.succ.inj h
  obtain ⟨x19, l, rfl⟩ := List.exists_cons_of_length_eq_add_one h
  replace h : l.length = 20 := Nat.succ.inj h
  obtain ⟨x20, l, rfl⟩ := List.exists_cons_of_length_eq_add_one h
  replace h : l.length = 19 := Nat.succ.inj h
  obtain ⟨x21, l, rfl⟩ := List.exists_cons_of_length_eq_add_one h
  replace h : l.length = 18 := Nat.succ.inj h
  obtain ⟨x22, l, rfl⟩ := List.exists_cons_of_length_eq_add_one h
  replace h : l.length = 17 := Nat.succ.inj h
  obtain ⟨x23, l, rfl⟩ := List.exists_cons_of_length_eq_add_one h
  replace h : l.length = 16 := Nat.succ.inj h
  obtain ⟨x24, l, rfl⟩ := List.exists_cons_of_length_eq_add_one h
  replace h : l.length = 15 := Nat.succ.inj h
  obtain ⟨x25, l, rfl⟩ := List.exists_cons_of_length_eq_add_one h
  replace h : l.length = 14 := Nat.succ.inj h
  obtain ⟨x26, l, rfl⟩ := List.exists_cons_of_length_eq_add_one h
  replace h : l.length = 13 := Nat.succ.inj h
  obtain ⟨x27, l, rfl⟩ := List.exists_cons_of_length_eq_add_one h
  replace h : l.length = 12 := Nat.succ.inj h
  obtain ⟨x28, l, rfl⟩ := List.exists_cons_of_length_eq_add_one h
  replace h : l.length = 11 := Nat.succ.inj h
  obtain ⟨x29, l, rfl⟩ := List.exists_cons_of_length_eq_add_one h
  replace h : l.length = 10 := Nat.succ.inj h
  obtain ⟨x30, l, rfl⟩ := List.exists_cons_of_length_eq_add_one h
  replace h : l.length = 9 := Nat.succ.inj h
  obtain ⟨x31, l, rfl⟩ := List.exists_cons_of_length_eq_add_one h
  replace h : l.length = 8 := Nat.succ.inj h
  obtain ⟨x32, l, rfl⟩ := List.exists_cons_of_length_eq_add_one h
  replace h : l.length = 7 := Nat.succ.inj h
  obtain ⟨x33, l, rfl⟩ := List.exists_cons_of_length_eq_add_one h
  replace h : l.length = 6 := Nat.succ.inj h
  obtain ⟨x34, l, rfl⟩ := List.exists_cons_of_length_eq_add_one h
  replace h : l.length = 5 := Nat.succ.inj h
  obtain ⟨x35, l, rfl⟩ := List.exists_cons_of_length_eq_add_one h
  replace h : l.length = 4 := Nat.succ.inj h
  obtain ⟨x36, l, rfl⟩ := List.exists_cons_of_length_eq_add_one h
  replace h : l.length = 3 := Nat.succ.inj h
  obtain ⟨x37, l, rfl⟩ := List.exists_cons_of_length_eq_add_one h
  replace h : l.length = 2 := Nat.succ.inj h
  obtain ⟨x38, l, rfl⟩ := List.exists_cons_of_length_eq_add_one h
  replace h : l.length = 1 := Nat.succ.inj h
  obtain ⟨x39, l, rfl⟩ := List.exists_cons_of_length_eq_add_one h
  replace h : l.length = 0 := Nat.succ.inj h
  obtain rfl := List.eq_nil_of_length_eq_zero h
  exact ⟨_, _, _, _, _, _, _, _, _, _, _, _, _, _, _, _, _, _, _, _, _, _, _, _, _, _, _, _, _, _, _, _, _, _, _, _, _, _, _, _, rfl⟩

theorem Below.next2 {w w1 w2 : World} {n : Nat} (h : Below n w w1) (h2 : Below w1.heap.size w1.drew w2) (hn : n ≤ w1.heap.size) : Below n w w2 := (h.drew).trans (h2.mono hn)

/-- What each operation of DatumSame's drawn region makes. -/
def SameR (va vb vl : Value) (q : Bool) (l : List Dat) (i : Nat) (v : Value) (W : World) : Prop := match i with
  | 0 | 1 | 8 | 9 | 10 | 15 | 16 => v = .bool true
  | 2 | 5 => v = va
  | 3 | 6 => v = vb
  | 4 | 7 => v = .bool q
  | 11 | 13 => v = vl
  | _ => ∃ (k n d : Int) (s : ByteArray) (o : Option Addr) (len cap : Nat), v = .agg #[.int .i64 k, .int .i64 n, .int .i64 d, .string s, .slice o len cap] ∧ RepD W W.heap.size (Dat.list l) (.agg #[.int .i64 k, .int .i64 n, .int .i64 d, .string s, .slice o len cap])

theorem sameR_kept (va vb vl : Value) (q : Bool) (l : List Dat) : ∀ i v A B, i < 17 → SameR va vb vl q l i v A → Below A.heap.size A B → SameR va vb vl q l i v B := by
  intro i v A B hi h hb
  match i, hi, h with
  | 0, _, h => exact h
  | 1, _, h => exact h
  | 2, _, h => exact h
  | 3, _, h => exact h
  | 4, _, h => exact h
  | 5, _, h => exact h
  | 6, _, h => exact h
  | 7, _, h => exact h
  | 8, _, h => exact h
  | 9, _, h => exact h
  | 10, _, h => exact h
  | 11, _, h => exact h
  | 13, _, h => exact h
  | 15, _, h => exact h
  | 16, _, h => exact h
  | 12, _, ⟨k, n, d, s, o, len, cap, h1, h2⟩ => exact ⟨k, n, d, s, o, len, cap, h1, (h2.kept hb).wider hb.size⟩
  | 14, _, ⟨k, n, d, s, o, len, cap, h1, h2⟩ => exact ⟨k, n, d, s, o, len, cap, h1, (h2.kept hb).wider hb.size⟩
  | i + 17, hi, _ => omega

set_option maxHeartbeats 4000000 in
set_option maxRecDepth 100000 in
theorem rsame_to (x y : Dat) (v u : Value) (B : Nat) (w : World) (r : Bool) (hr : (Dat.right x 0 && (Dat.right y 0 && Dat.alike x y)) = r) (hv : RepD w B x v) (hu : RepD w B y u) (hB : B ≤ w.heap.size) :
    Calls Tryz.prog 20 #[v, u] w fun e w' => e = .returned (.bool r) ∧ Below w.heap.size w w' := by
  obtain ⟨k, n, d, s, o, len, cap, rfl⟩ := agg_of hv
  obtain ⟨k', n', d', s', o', len', cap', rfl⟩ := agg_of hu
  have HV := Lib.hid hv
  have HU := Lib.hid hu
  have HBB := Lib.hid hB
  have HR := Lib.hid hr
  clear hv hu hB hr
  have HK := Lib.hid (fun X Y => ((Below.refl w.heap.size w).alloc (Nat.le_refl _) X).alloc (by simp) Y)
  obtain ⟨rx, hrx⟩ : ∃ r, Dat.right x 0 = r := ⟨_, rfl⟩
  obtain ⟨ry, hry⟩ : ∃ r, Dat.right y 0 = r := ⟨_, rfl⟩
  have HRX := Lib.hid hrx
  have HRY := Lib.hid hry
  have hb0 := HBB.out
  go_enter Tryz.func20, Tryz.ntmps20
  go_wp2_with fail
  refine (rRight_to x _ B _ rx HRX.out (HV.out.kept ((HK.out _ _).mono HBB.out)) (by simp; omega)).mono ?_
  rintro e' w1 ⟨rfl, hb1⟩
  have HA1 : RowKit.Hid (Five w1 w.heap.size (.int .i64 k) (.int .i64 n) (.int .i64 d) (.string s) (.slice o len cap)) := Lib.hid (two_five hb1)
  have HC1 : RowKit.Hid (Five w1 (w.heap.size + 1) (.int .i64 k') (.int .i64 n') (.int .i64 d') (.string s') (.slice o' len' cap')) := Lib.hid (two_five2 hb1)
  have HB1 := Lib.hid (two_below hb1)
  have hs1 := two_size hb1
  clear hb1
  obtain ⟨p0, p1, p2, p3, p4⟩ := HA1.out
  obtain ⟨q0, q1, q2, q3, q4⟩ := HC1.out
  clear hrx hry
  cases rx with
  | false =>
    have HF := Lib.hid (show false = r by rw [← HR.out, HRX.out]; rfl)
    go_wp2_with fail
    go_ret
    exact ⟨ret_bool HF.out, HB1.out⟩
  | true =>
    go_wp2_with fail
    refine (rRight_to y _ B _ ry HRY.out (HU.out.kept (HB1.out.mono HBB.out)) (by omega)).mono ?_
    rintro e' w2 ⟨rfl, hb2⟩
    have HB2 := Lib.hid (Below.next HB1.out hb2)
    have HA2 := Lib.hid (HA1.out.kept hb2)
    have HC2 := Lib.hid (HC1.out.kept hb2)
    have hs2 := hb2.size
    clear hb2 p0 p1 p2 p3 p4 q0 q1 q2 q3 q4
    obtain ⟨p0, p1, p2, p3, p4⟩ := HA2.out
    obtain ⟨q0, q1, q2, q3, q4⟩ := HC2.out
    cases ry with
    | false =>
      have HF := Lib.hid (show false = r by rw [← HR.out, HRX.out, HRY.out]; rfl)
      go_wp2_with fail
      go_ret
      exact ⟨ret_bool HF.out, HB2.out⟩
    | true =>
      have HF := Lib.hid (show Dat.alike x y = r by rw [← HR.out, HRX.out, HRY.out]; rfl)
      go_wp2_with fail
      refine (ralike_to x y _ _ B _ r HF.out (HV.out.kept (HB2.out.mono HBB.out)) (HU.out.kept (HB2.out.mono HBB.out)) (by omega)).mono ?_
      rintro e' w3 ⟨rfl, hb3⟩
      go_wp2_with fail
      go_ret
      exact ⟨rfl, Below.next HB2.out hb3⟩

set_option maxHeartbeats 4000000 in
set_option maxRecDepth 100000 in
theorem datumSame_walk (x y : Dat) (l : List Dat) (v u vl : Value) (w : World) (hv : RepD w w.heap.size x v) (hu : RepD w w.heap.size y u) (hl : RepS w w.heap.size l vl) (hE : Env w) :
    Calls Tryz.prog 5 #[v, u, vl] w fun e w' => e = .returned (.bool true) ∧ Below w.heap.size w w' := by
  obtain ⟨k, n, d, s, o, len, cap, rfl⟩ := agg_of hv
  obtain ⟨k', n', d', s', o', len', cap', rfl⟩ := agg_of hu
  have HV := Lib.hid hv
  have HU := Lib.hid hu
  have HLS := Lib.hid hl
  obtain ⟨oL, lenL, capL, rfl, hlL, hcapL, hmaxL, _⟩ := hl
  have HE := Lib.hid hE
  clear hv hu hlL hE
  have HK := Lib.hid (fun X Y => ((Below.refl w.heap.size w).alloc (Nat.le_refl _) X).alloc (by simp) Y)
  obtain ⟨ya, hya⟩ : ∃ y, Dat.all x = y := ⟨_, rfl⟩
  obtain ⟨yb, hyb⟩ : ∃ z, Dat.all y = z := ⟨_, rfl⟩
  obtain ⟨q, hq⟩ : ∃ q, (Dat.right x 0 && (Dat.right y 0 && Dat.alike x y)) = q := ⟨_, rfl⟩
  have HYA := Lib.hid hya
  have HYB := Lib.hid hyb
  have HQ := Lib.hid hq
  clear hya hyb hq
  go_enter Tryz.func5, Tryz.ntmps5
  go_wp2_with fail
  refine (awake2_any _ (env_kept HE.out (HK.out _ _))).mono ?_
  rintro e' w1 ⟨rfl, hb1⟩
  have HA1 : RowKit.Hid (Five w1 w.heap.size (.int .i64 k) (.int .i64 n) (.int .i64 d) (.string s) (.slice o len cap)) := Lib.hid (two_five hb1)
  have HC1 : RowKit.Hid (Five w1 (w.heap.size + 1) (.int .i64 k') (.int .i64 n') (.int .i64 d') (.string s') (.slice o' len' cap')) := Lib.hid (two_five2 hb1)
  have HB1 := Lib.hid (two_below hb1)
  have hs1 := two_size hb1
  clear hb1
  obtain ⟨p0, p1, p2, p3, p4⟩ := HA1.out
  obtain ⟨q0, q1, q2, q3, q4⟩ := HC1.out
  by_cases ha : ya ≤ 2000
  · go_wp2_with fail
    refine (lfew_to _ _ 2000 w.heap.size _ true (by rw [HYA.out]; exact decide_eq_true (by omega)) (HV.out.kept HB1.out) (by omega) (by omega) (by omega)).mono ?_
    rintro e' w2 ⟨rfl, hb2⟩
    have HB2 := Lib.hid (Below.next HB1.out hb2)
    have HA2 := Lib.hid (HA1.out.kept hb2)
    have HC2 := Lib.hid (HC1.out.kept hb2)
    have hs2 := hb2.size
    clear hb2 p0 p1 p2 p3 p4 q0 q1 q2 q3 q4
    obtain ⟨p0, p1, p2, p3, p4⟩ := HA2.out
    obtain ⟨q0, q1, q2, q3, q4⟩ := HC2.out
    by_cases hb : yb ≤ 2000
    · go_wp2_with fail
      refine (lfew_to _ _ 2000 w.heap.size _ true (by rw [HYB.out]; exact decide_eq_true (by omega)) (HU.out.kept HB2.out) (by omega) (by omega) (by omega)).mono ?_
      rintro e' w3 ⟨rfl, hb3⟩
      have HB3 := Lib.hid (Below.next HB2.out hb3)
      have HA3 := Lib.hid (HA2.out.kept hb3)
      have HC3 := Lib.hid (HC2.out.kept hb3)
      have hs3 := hb3.size
      clear hb3 p0 p1 p2 p3 p4 q0 q1 q2 q3 q4
      obtain ⟨p0, p1, p2, p3, p4⟩ := HA3.out
      obtain ⟨q0, q1, q2, q3, q4⟩ := HC3.out
      by_cases hln : 200 < lenL
      · have hln1 : decide ((200 : Int) < (lenL : Int)) = true := decide_eq_true (by omega)
        have hln2 : decide (200 < lenL) = true := decide_eq_true hln
        go_wp2_with fail
        go_ret
        exact ⟨rfl, HB3.out⟩
      · have hln1 : decide ((200 : Int) < (lenL : Int)) = false := decide_eq_false (by omega)
        have hln2 : decide (200 < lenL) = false := decide_eq_false hln
        go_wp2_with fail
        have hB : ∀ w2, Below w3.heap.size w3.drew w2 → Below w.heap.size w w2 := fun w2 h => Below.next2 HB3.out h (by omega)
        have H1 := Lib.hid (fun w2 (h : Below w3.heap.size w3.drew w2) => (same_any x y _ _ w.heap.size w2 (HV.out.kept (hB w2 h)) (HU.out.kept (hB w2 h)) (hB w2 h).size).mono (fun e w' (h : e = _ ∧ _) => (⟨by rw [h.1, HQ.out], h.2⟩ : e = .returned (.bool q) ∧ Below w2.heap.size w2 w')))
        have H2 := Lib.hid (fun w2 (h : Below w3.heap.size w3.drew w2) => rsame_to x y _ _ w.heap.size w2 q HQ.out (HV.out.kept (hB w2 h)) (HU.out.kept (hB w2 h)) (hB w2 h).size)
        have H3 := Lib.hid (fun w2 (h : Below w3.heap.size w3.drew w2) => list_any l _ w.heap.size w2 (HLS.out.kept (hB w2 h)) (hB w2 h).size)
        have H4 := Lib.hid (fun w2 (h : Below w3.heap.size w3.drew w2) => rlist_any l _ w.heap.size w2 (HLS.out.kept (hB w2 h)) (hB w2 h).size)
        have HBH := Lib.hid hB
        clear hB p0 p1 p2 p3 p4 q0 q1 q2 q3 q4
        refine wp_region_mono_g 17 (SameR (.agg #[.int .i64 k, .int .i64 n, .int .i64 d, .string s, .slice o len cap]) (.agg #[.int .i64 k', .int .i64 n', .int .i64 d', .string s', .slice o' len' cap']) (.slice oL lenL capL) q l) (fun A B => Below A.heap.size A B) (by kernel_rfl) [1, 10] (by show monoG _ 17 40 = true; kernel_rfl) (by show guardsB _ _ 17 40 _ = true; kernel_rfl) ?hG (fun h k => Below.next h k) (Below.refl _ _) (sameR_kept _ _ _ _ _) ?hops ?hend
        case hG =>
          intro g hg v W h
          simp only [List.mem_cons, List.not_mem_nil, or_false] at hg
          rcases hg with rfl | rfl <;> exact h
        case hops =>
          intro i o hi ho a w1 hdf hsz hex hdep hrest
          have hex2 : Below w3.heap.size w3 w1 := ((Below.refl w3.heap.size w3).drew).trans hex
          obtain ⟨x0, x1, x2, x3, x4, x5, x6, x7, x8, x9, x10, x11, x12, x13, x14, x15, x16, x17, x18, x19, x20, x21, x22, x23, x24, x25, x26, x27, x28, x29, x30, x31, x32, x33, x34, x35, x36, x37, x38, x39, rfl⟩ := act_open40 hsz hdf
          match i, hi with
          | 0, _ =>
            obtain rfl : _ = o := Option.some.inj ho
            obtain rfl : x7 = .bool true := hrest.at 7 (by kernel_rfl)
            go_wp2
            exact ⟨rfl, _, rfl, rfl, Below.refl _ _⟩
          | 1, _ =>
            obtain rfl : _ = o := Option.some.inj ho
            obtain rfl : x23 = _ := dep_at hdep 0 23 (by kernel_rfl)
            go_wp2
            exact ⟨rfl, _, rfl, rfl, Below.refl _ _⟩
          | 2, _ =>
            obtain rfl : _ = o := Option.some.inj ho
            obtain rfl : x24 = _ := dep_at hdep 1 24 (by kernel_rfl)
            obtain rfl : x3 = .pointer (some ⟨w.heap.size, 0, none⟩) := hrest.at 3 (by kernel_rfl)
            obtain ⟨q0, q1, q2, q3, q4⟩ := (HA3.out.kept hex2)
            go_wp2
            exact ⟨rfl, _, rfl, rfl, Below.refl _ _⟩
          | 3, _ =>
            obtain rfl : _ = o := Option.some.inj ho
            obtain rfl : x24 = _ := dep_at hdep 1 24 (by kernel_rfl)
            obtain rfl : x4 = .pointer (some ⟨w.heap.size + 1, 0, none⟩) := hrest.at 4 (by kernel_rfl)
            obtain ⟨q0, q1, q2, q3, q4⟩ := (HC3.out.kept hex2)
            go_wp2
            exact ⟨rfl, _, rfl, rfl, Below.refl _ _⟩
          | 4, _ =>
            obtain rfl : _ = o := Option.some.inj ho
            obtain rfl : x24 = _ := dep_at hdep 1 24 (by kernel_rfl)
            obtain rfl : x25 = _ := dep_at hdep 2 25 (by kernel_rfl)
            obtain rfl : x26 = _ := dep_at hdep 3 26 (by kernel_rfl)
            go_wp2_with fail
            refine (H1.out _ hex).mono ?_
            rintro e' w2 ⟨rfl, hb2⟩
            go_wp2
            exact ⟨rfl, _, rfl, rfl, hb2⟩
          | 5, _ =>
            obtain rfl : _ = o := Option.some.inj ho
            obtain rfl : x24 = _ := dep_at hdep 1 24 (by kernel_rfl)
            obtain rfl : x3 = .pointer (some ⟨w.heap.size, 0, none⟩) := hrest.at 3 (by kernel_rfl)
            obtain ⟨q0, q1, q2, q3, q4⟩ := (HA3.out.kept hex2)
            go_wp2
            exact ⟨rfl, _, rfl, rfl, Below.refl _ _⟩
          | 6, _ =>
            obtain rfl : _ = o := Option.some.inj ho
            obtain rfl : x24 = _ := dep_at hdep 1 24 (by kernel_rfl)
            obtain rfl : x4 = .pointer (some ⟨w.heap.size + 1, 0, none⟩) := hrest.at 4 (by kernel_rfl)
            obtain ⟨q0, q1, q2, q3, q4⟩ := (HC3.out.kept hex2)
            go_wp2
            exact ⟨rfl, _, rfl, rfl, Below.refl _ _⟩
          | 7, _ =>
            obtain rfl : _ = o := Option.some.inj ho
            obtain rfl : x24 = _ := dep_at hdep 1 24 (by kernel_rfl)
            obtain rfl : x28 = _ := dep_at hdep 5 28 (by kernel_rfl)
            obtain rfl : x29 = _ := dep_at hdep 6 29 (by kernel_rfl)
            go_wp2_with fail
            refine (H2.out _ hex).mono ?_
            rintro e' w2 ⟨rfl, hb2⟩
            go_wp2
            exact ⟨rfl, _, rfl, rfl, hb2⟩
          | 8, _ =>
            obtain rfl : _ = o := Option.some.inj ho
            obtain rfl : x24 = _ := dep_at hdep 1 24 (by kernel_rfl)
            obtain rfl : x27 = _ := dep_at hdep 4 27 (by kernel_rfl)
            obtain rfl : x30 = _ := dep_at hdep 7 30 (by kernel_rfl)
            cases q
            all_goals go_wp2
            all_goals exact ⟨rfl, _, rfl, rfl, Below.refl _ _⟩
          | 9, _ =>
            obtain rfl : _ = o := Option.some.inj ho
            obtain rfl : x24 = _ := dep_at hdep 1 24 (by kernel_rfl)
            obtain rfl : x31 = _ := dep_at hdep 8 31 (by kernel_rfl)
            go_wp2
            exact ⟨rfl, _, rfl, rfl, Below.refl _ _⟩
          | 10, _ =>
            obtain rfl : _ = o := Option.some.inj ho
            obtain rfl : x32 = _ := dep_at hdep 9 32 (by kernel_rfl)
            go_wp2
            exact ⟨rfl, _, rfl, rfl, Below.refl _ _⟩
          | 11, _ =>
            obtain rfl : _ = o := Option.some.inj ho
            obtain rfl : x33 = _ := dep_at hdep 10 33 (by kernel_rfl)
            obtain rfl : x2 = .slice oL lenL capL := hrest.at 2 (by kernel_rfl)
            go_wp2
            exact ⟨rfl, _, rfl, rfl, Below.refl _ _⟩
          | 12, _ =>
            obtain rfl : _ = o := Option.some.inj ho
            obtain rfl : x33 = _ := dep_at hdep 10 33 (by kernel_rfl)
            obtain rfl : x34 = _ := dep_at hdep 11 34 (by kernel_rfl)
            go_wp2_with fail
            refine (H3.out _ hex).mono ?_
            rintro e' w2 ⟨v2, rfl, hr2, hb2⟩
            obtain ⟨k2, n2, d2, s2, o2, len2, cap2, rfl⟩ := agg_of hr2
            go_wp2
            exact ⟨rfl, _, rfl, ⟨k2, n2, d2, s2, o2, len2, cap2, rfl, hr2⟩, hb2⟩
          | 13, _ =>
            obtain rfl : _ = o := Option.some.inj ho
            obtain rfl : x33 = _ := dep_at hdep 10 33 (by kernel_rfl)
            obtain rfl : x2 = .slice oL lenL capL := hrest.at 2 (by kernel_rfl)
            go_wp2
            exact ⟨rfl, _, rfl, rfl, Below.refl _ _⟩
          | 14, _ =>
            obtain rfl : _ = o := Option.some.inj ho
            obtain rfl : x33 = _ := dep_at hdep 10 33 (by kernel_rfl)
            obtain rfl : x36 = _ := dep_at hdep 13 36 (by kernel_rfl)
            go_wp2_with fail
            refine (H4.out _ hex).mono ?_
            rintro e' w2 ⟨v2, rfl, hr2, hb2⟩
            obtain ⟨k2, n2, d2, s2, o2, len2, cap2, rfl⟩ := agg_of hr2
            go_wp2
            exact ⟨rfl, _, rfl, ⟨k2, n2, d2, s2, o2, len2, cap2, rfl, hr2⟩, hb2⟩
          | 15, _ =>
            obtain rfl : _ = o := Option.some.inj ho
            obtain rfl : x33 = _ := dep_at hdep 10 33 (by kernel_rfl)
            obtain ⟨k2, n2, d2, s2, o2, len2, cap2, h2, hr2⟩ : ∃ (k n d : Int) (s : ByteArray) (o : Option Addr) (len cap : Nat), x35 = .agg #[.int .i64 k, .int .i64 n, .int .i64 d, .string s, .slice o len cap] ∧ _ := dep_at hdep 12 35 (by kernel_rfl)
            subst h2
            obtain ⟨k3, n3, d3, s3, o3, len3, cap3, h3, hr3⟩ : ∃ (k n d : Int) (s : ByteArray) (o : Option Addr) (len cap : Nat), x37 = .agg #[.int .i64 k, .int .i64 n, .int .i64 d, .string s, .slice o len cap] ∧ _ := dep_at hdep 14 37 (by kernel_rfl)
            subst h3
            go_wp2_with fail
            refine (ralike_to _ _ _ _ _ _ true (Dat.alike_self _) hr2 hr3 (Nat.le_refl _)).mono ?_
            rintro e' w2 ⟨rfl, hb2⟩
            go_wp2
            exact ⟨rfl, _, rfl, rfl, hb2⟩
          | 16, _ =>
            obtain rfl : _ = o := Option.some.inj ho
            obtain rfl : x33 = _ := dep_at hdep 10 33 (by kernel_rfl)
            obtain rfl : x38 = _ := dep_at hdep 15 38 (by kernel_rfl)
            go_wp2
            exact ⟨rfl, _, rfl, rfl, Below.refl _ _⟩
          | i + 17, h => exact absurd h (by omega)
        case hend =>
          intro a w1 hdf hsz hex hval hrest
          obtain ⟨x0, x1, x2, x3, x4, x5, x6, x7, x8, x9, x10, x11, x12, x13, x14, x15, x16, x17, x18, x19, x20, x21, x22, x23, x24, x25, x26, x27, x28, x29, x30, x31, x32, x33, x34, x35, x36, x37, x38, x39, rfl⟩ := act_open40 hsz hdf
          obtain rfl : x39 = .bool true := hval 16 _ 39 (by omega) rfl rfl
          have HF := Lib.hid (HBH.out _ hex)
          clear hex hval hrest hsz hdf
          simp only [List.drop_succ_cons, List.drop_zero]
          go_wp2_with fail
          go_ret
          exact ⟨rfl, HF.out⟩
    · go_wp2_with fail
      refine (lfew_to _ _ 2000 w.heap.size _ false (by rw [HYB.out]; exact decide_eq_false (by omega)) (HU.out.kept HB2.out) (by omega) (by omega) (by omega)).mono ?_
      rintro e' w3 ⟨rfl, hb3⟩
      go_wp2_with fail
      go_ret
      exact ⟨rfl, Below.next HB2.out hb3⟩
  · go_wp2_with fail
    refine (lfew_to _ _ 2000 w.heap.size _ false (by rw [HYA.out]; exact decide_eq_false (by omega)) (HV.out.kept HB1.out) (by omega) (by omega) (by omega)).mono ?_
    rintro e' w2 ⟨rfl, hb2⟩
    go_wp2_with fail
    go_ret
    exact ⟨rfl, Below.next HB1.out hb2⟩
end Go.Proofs.YtlpkpkcfgchngaaGreatDoor

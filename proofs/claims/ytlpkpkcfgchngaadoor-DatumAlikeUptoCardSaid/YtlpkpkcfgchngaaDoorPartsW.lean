/-
  The walk of DatumParts.
-/
import Derived.Test.YtlpkpkcfgchngaaDoorSizesW
import Derived.Test.YtlpkpkcfgchngaaDoorRead
import Derived.OwnWalk
import Derived.IntWalk
import Derived.Laws.OwnMore
namespace Go.Proofs.YtlpkpkcfgchngaaDoor
open Go.RowKit

theorem dright_to (x : Dat) (v : Value) (B : Nat) (w : World) (r : Bool) (hr : Dat.right x 0 = r) (hv : RepD w B x v) (hB : B ≤ w.heap.size) :
    Calls Tryd.prog 9 #[v] w fun e w' => e = .returned (.bool r) ∧ Below w.heap.size w w' := by
  rw [← hr]; exact dright_any x v B w hv hB

theorem and_1023 (x : Int) : ∃ m : Nat, bits .and .i64 x 1023 = (m : Int) ∧ m ≤ 1023 := by
  refine ⟨(BitVec.ofInt 64 x).toNat &&& 1023, ?_, Nat.and_le_right⟩
  show IntKind.i64.wrap ((BitVec.ofInt 64 x &&& BitVec.ofInt 64 1023).toNat : Int) = _
  have h1 : (BitVec.ofInt 64 1023).toNat = 1023 := by decide
  rw [BitVec.toNat_and, h1]
  have := Nat.and_le_right (n := (BitVec.ofInt 64 x).toNat) (m := 1023)
  exact IntWalk.i64_in _ (by omega)
theorem index_1023 (x : Int) (len : Nat) (h : 0 < len) : ∃ q : Nat, (bits .and .i64 x 1023).tmod (len : Int) = (q : Int) ∧ q < len := by
  obtain ⟨m, hm, _⟩ := and_1023 x
  refine ⟨m % len, ?_, Nat.mod_lt _ h⟩
  rw [hm, Int.tmod_eq_emod_of_nonneg (by omega)]
  exact (Int.natCast_emod m len).symm

theorem grownBy_setCell4 (W : World) (b : Nat) (v : Value) : W.grownBy (W.setCell ⟨b, 4, none⟩ v) (some b) :=
  ⟨rfl, rfl, rfl, (KeepsWalks.setCell W _ v).size, fun k _ hk => Below.heap_setCell _ _ _ k (fun e => hk (by rw [e]))⟩

theorem allL_len (l : List Dat) : l.length ≤ Dat.allL l := by
  induction l with
  | nil => simp
  | cons x l ih => have := Dat.all_pos x; simp only [Dat.allL, List.length_cons]; omega

/-- With a part that is wrong a datum is wrong. -/
theorem wrong_part {k n d : Int} {s : ByteArray} {l : List Dat} {i : Nat} (hi : i < l.length) (n' d' : Int) (s' : ByteArray) (l' : List Dat) : Dat.right (.mk k n d s (l.set i (.mk 9 n' d' s' l'))) 0 = false := by
  cases h : Dat.right (.mk k n d s (l.set i (.mk 9 n' d' s' l'))) 0 with
  | false => rfl
  | true =>
    have := Dat.right_part h (y := .mk 9 n' d' s' l') (by simp [Dat.l]; exact List.mem_set hi _)
    simp [Dat.right, Dat.head] at this

set_option maxHeartbeats 4000000 in
set_option maxRecDepth 100000 in
theorem datumParts_walk (x : Dat) (v : Value) (kk : Int) (hk0 : -9223372036854775808 ≤ kk) (hk1 : kk ≤ 9223372036854775807) (w : World) (hv : RepD w w.heap.size x v) (hE : Env w) :
    Calls Tryd.prog 3 #[v, .int .i64 kk] w fun e w' => e = .returned (.bool true) ∧ Below w.heap.size w w' := by
  obtain ⟨k, n, d, s, l⟩ := x
  obtain ⟨sl, rfl, bk, bn, bd, bs, hs⟩ := hv.open
  have HR := Lib.hid hv
  have HS := Lib.hid hs
  obtain ⟨o, len, cap, rfl, hl, hcap, hmax, hc⟩ := hs
  have HV := Lib.hid hc
  have HL := Lib.hid hl
  clear hc hl hv
  have HK := Lib.hid (fun X => (Below.refl w.heap.size w).alloc (Nat.le_refl _) X)
  go_enter Tryd.func3, Tryd.ntmps3
  go_wp2_with fail
  refine (awake2_any _ (env_kept hE (HK.out _))).mono ?_
  rintro e' w1 ⟨rfl, hb1⟩
  have hbox : Box5 w1 w.heap.size 24 (.int .i64 k) (.int .i64 n) (.int .i64 d) (.string s) (.slice o len cap) := (hb1.block _ (by simp)).trans (Box5.new w _ _ _ _ _ _)
  obtain ⟨q0, q1, q2, q3, q4⟩ := hbox.cells
  have HB1 := Lib.hid (one_below hb1)
  have hlt1 := hbox.lt
  have HX1 := Lib.hid hbox
  clear hb1 hbox
  obtain ⟨y, hy⟩ : ∃ y, Dat.all (.mk k n d s l) = y := ⟨_, rfl⟩
  have HY := Lib.hid hy
  clear hy
  by_cases h500 : y ≤ 500
  · go_wp2_with fail
    refine (lfew_to _ _ 500 w.heap.size _ true (by rw [HY.out]; exact decide_eq_true (by omega)) (HR.out.kept HB1.out) (by omega) (by omega) (by omega)).mono ?_
    rintro e' w2 ⟨rfl, hb2⟩
    have hbox : Box5 w2 w.heap.size 24 (.int .i64 k) (.int .i64 n) (.int .i64 d) (.string s) (.slice o len cap) := (hb2.block _ hlt1).trans HX1.out
    obtain ⟨p0, p1, p2, p3, p4⟩ := hbox.cells
    have HB2 := Lib.hid (Below.next HB1.out hb2)
    have hlt2 := hbox.lt
    have HX2 := Lib.hid hbox
    clear hb2 hbox q0 q1 q2 q3 q4
    obtain ⟨r, hr⟩ : ∃ r, Dat.right (.mk k n d s l) 0 = r := ⟨_, rfl⟩
    have HRr := Lib.hid hr
    clear hr
    go_wp2_with fail
    refine (dright_to _ _ w.heap.size _ r HRr.out (HR.out.kept HB2.out) (by omega)).mono ?_
    rintro e' w3 ⟨rfl, hb3⟩
    have hbox : Box5 w3 w.heap.size 24 (.int .i64 k) (.int .i64 n) (.int .i64 d) (.string s) (.slice o len cap) := (hb3.block _ hlt2).trans HX2.out
    have HB3 := Lib.hid (Below.next HB2.out hb3)
    have HX3 := Lib.hid hbox
    clear hb3 hbox p0 p1 p2 p3 p4
    go_wp2_with fail
    have hI : ∃ j : Nat, (.int .i64 0 : Value) = .int .i64 j ∧ j ≤ len ∧ Box5 w3 w.heap.size 24 (.int .i64 k) (.int .i64 n) (.int .i64 d) (.string s) (.slice o len cap) ∧ Below w.heap.size w w3 := ⟨0, rfl, by omega, HX3.out, HB3.out⟩
    have HI := Lib.hid hI
    clear hI
    go_loopg [7] len (fun g i wr => ∃ j : Nat, g = len - j ∧ i = .int .i64 j ∧ j ≤ len ∧ Box5 wr w.heap.size 24 (.int .i64 k) (.int .i64 n) (.int .i64 d) (.string s) (.slice o len cap) ∧ Below w.heap.size w wr)
    case atStart => exact ⟨0, rfl, rfl, by omega, HX3.out, HB3.out⟩
    case round =>
      obtain ⟨j, rfl, rfl, hj, hbox, hb⟩ := hrel
      obtain ⟨q0, q1, q2, q3, q4⟩ := hbox.cells
      have hlt := hbox.lt
      have HX := Lib.hid hbox
      have HB := Lib.hid hb
      have hsz := hb.size
      clear hbox hb
      by_cases hjr : j < len ∧ r = true
      · obtain ⟨hjl, rfl⟩ := hjr
        obtain ⟨x, hx⟩ : ∃ x, l[j]? = some x := ⟨_, List.getElem?_eq_getElem (by rw [← HL.out]; exact hjl)⟩
        obtain ⟨bb, off, k', n', d', s', l', o', len', cap', ho, hxe, e0, e1, e2, e3, e4, er⟩ := part_at2 HV.out HB.out hx
        subst ho hxe
        have HX' := Lib.hid hx
        have ER := Lib.hid er
        have hbb := cell_lt e0
        clear hx er
        go_wp2_with fail
        refine (dright_to _ _ w.heap.size _ true (Dat.right_part HRr.out (List.mem_of_getElem? HX'.out)) ER.out (by omega)).mono ?_
        rintro e' w4 ⟨rfl, hb4⟩
        have HB4 := Lib.hid hb4
        clear hb4
        go_wp2_with fail
        go_roundg (len - (j + 1))
        case measure => omega
        case rel => exact ⟨j + 1, rfl, by go_num, by omega, (HB4.out.block _ hlt).trans HX.out, Below.next HB.out HB4.out⟩
      · have hstop : ¬ j < len ∨ (j < len ∧ r = false) := by
          by_cases h : j < len
          · exact .inr ⟨h, by cases r with | false => rfl | true => exact absurd ⟨h, rfl⟩ hjr⟩
          · exact .inl h
        clear HI
        by_cases hl0 : len = 0
        · subst hl0
          rcases hstop with h | ⟨h, _⟩
          · go_wp2_with fail
            go_ret
            exact ⟨rfl, HB.out⟩
          · omega
        · have hl1 : ((len : Int) == 0) = false := by simpa using hl0
          obtain ⟨i0, hi, hz0, hz1, hz2⟩ := info_parts info_datum
          obtain ⟨bb, off, ho, hbw, hrc⟩ : ∃ bb off, o = some ⟨bb, off, none⟩ ∧ bb < w.heap.size ∧ RepC w w.heap.size l bb off := by
            obtain ⟨x, hx⟩ : ∃ x, l[0]? = some x := ⟨_, List.getElem?_eq_getElem (by rw [← HL.out]; omega)⟩
            obtain ⟨bb, off, ho, _⟩ := part_at HV.out (Below.refl _ w) hx
            have hv := HV.out
            rw [ho] at hv
            exact ⟨bb, off, ho, (hv.1 (by rintro rfl; simp at hx)).2, hv.2⟩
          subst ho
          obtain ⟨xs, hcs, hcell⟩ := repC_cells (hrc.kept hbw HB.out)
          have hxl := hcs.length
          have HCS := Lib.hid hcs
          have HCE := Lib.hid hcell
          have HXL := Lib.hid hxl
          have hly : len ≤ 500 := by
            have h1 := HY.out
            rw [Dat.all] at h1
            have h2 := allL_len l
            rw [← HL.out] at h2
            omega
          clear hcs hcell hxl hrc
          have hstop2 := Lib.hid hstop
          clear hstop
          rcases hstop2.out with h | ⟨h, rfl⟩
          all_goals
            go_wp2_with (at_builtin; refine wpList_append_own _ rfl _ _ 22 rfl wr.heap.size 24 i0 (.agg #[.int .i64 0, .int .i64 0, .int .i64 0, .string ⟨#[]⟩, .slice none 0 0]) 5 64 Tryd.underlying22 hi hz0 hz1 hz2 rfl (by decide) (.slice (some ⟨wr.heap.size, 0, none⟩) 0 0) 0 [] rfl (World.ownsRow_lit wr #[] 0 (Nat.le_refl _) (by decide) rfl) ⟨bb, off, none⟩ len cap xs rfl ?a1 ?a2 ?a3 ?a4 ?a5 ?a6 ?_)
            case a1 => rw [HXL.out, HL.out]
            case a2 =>
              intro q u hq
              rw [World.cell?_alloc_past _ _ _ (by omega)]
              exact HCE.out q u hq
            case a3 => exact HCS.out.oneCell
            case a4 => unfold maxLen; omega
            case a5 => omega
            intro v' w4 hown' hgrow _
            obtain ⟨g, cap', rfl⟩ : ∃ g cap', v' = .slice (some ⟨g, 0, none⟩) len cap' := by
              rcases hown'.2 with ⟨_, h0⟩ | ⟨g, cap, cur, hv, _⟩
              · omega
              · exact ⟨g, cap, by rw [hv]⟩
            have hgb := (hown'.lt g rfl).1
            have hown2 : w4.ownsRow wr.heap.size 24 5 (.slice (some ⟨g, 0, none⟩) len cap') len xs := by simpa using hown'
            have hb4 : Below w.heap.size w w4 := (HB.out.alloc hsz _).grown hgrow (by rw [World.size_alloc]; omega) (fun k hk => by have e2 : wr.heap.size = k := Option.some.inj hk; omega)
            have hsw : wr.heap.size ≤ w4.heap.size := by have := hgrow.size; rw [World.size_alloc] at this; omega
            have hbx4 : Box5 w4 w.heap.size 24 (.int .i64 k) (.int .i64 n) (.int .i64 d) (.string s) (.slice (some ⟨bb, off, none⟩) len cap) :=
              (hgrow.block _ (by rw [World.size_alloc]; omega) (fun e => by have e2 : w.heap.size = wr.heap.size := Option.some.inj e; omega)).trans (HX.out.alloc _)
            obtain ⟨p0, p1, p2, p3, p4⟩ := hbx4.cells
            obtain ⟨f0, f1, f2, f3, f4⟩ := hbx4.free
            have HO := Lib.hid hown2
            have HB4 := Lib.hid hb4
            have HX4 := Lib.hid hbx4
            have hs4 := hb4.size
            have hlt4 := hbx4.lt
            obtain ⟨q, hq, hqlt⟩ := index_1023 kk len (by omega)
            have hcl : ∀ t, t < 5 → ∃ u, w4.cell? ⟨g, q * 5 + t, none⟩ = some u := fun t ht => by
              have h1 := HO.out.cellAt (q * 5 + t) (by omega)
              have h2 : xs.length = len * 5 := by rw [HXL.out, HL.out]
              exact ⟨xs[q * 5 + t]'(by omega), by rw [h1]; exact List.getElem?_eq_getElem _⟩
            obtain ⟨y0, c0⟩ := hcl 0 (by omega)
            obtain ⟨y1, c1⟩ := hcl 1 (by omega)
            obtain ⟨y2, c2⟩ := hcl 2 (by omega)
            obtain ⟨y3, c3⟩ := hcl 3 (by omega)
            obtain ⟨y4, c4⟩ := hcl 4 (by omega)
            rw [Nat.add_zero] at c0
            have hfz : ∀ t, w4.frozen? ⟨g, t, none⟩ = false := fun t => HO.out.frozenAt t
            have z0 := hfz (q * 5)
            have z1 := hfz (q * 5 + 1)
            have z2 := hfz (q * 5 + 2)
            have z3 := hfz (q * 5 + 3)
            have z4 := hfz (q * 5 + 4)
            have hgH : g ≠ w.heap.size := by omega
            clear hown' hown2 hgrow hb4 hbx4 q0 q1 q2 q3 q4 hcl hfz
            go_wp2_with fail
            have HO5 := Lib.hid (put5_row (o := q * 5) HO.out (.int .i64 9) (.int .i64 0) (.int .i64 0) (.string ⟨#[]⟩) (.slice none 0 0))
            obtain ⟨W5, hW5⟩ : ∃ W5, (put5 w4 g (q * 5) (.int .i64 9) (.int .i64 0) (.int .i64 0) (.string ⟨#[]⟩) (.slice none 0 0)).setCell ⟨w.heap.size, 4, none⟩ (.slice (some ⟨g, 0, none⟩) len cap') = W5 := ⟨_, rfl⟩
            have hb5 : Below w.heap.size w W5 := by
              rw [← hW5]
              exact (HB4.out.trans (put5_below _ _ _ _ _ _ _ _ _ (by omega))).setCell (p := ⟨w.heap.size, 4, none⟩) (Nat.le_refl _) _
            have hbx5 : Box5 W5 w.heap.size 24 (.int .i64 k) (.int .i64 n) (.int .i64 d) (.string s) (.slice (some ⟨g, 0, none⟩) len cap') := by
              rw [← hW5]
              exact Box5.put4 (show Box5 (put5 w4 g (q * 5) (.int .i64 9) (.int .i64 0) (.int .i64 0) (.string ⟨#[]⟩) (.slice none 0 0)) w.heap.size 24 (.int .i64 k) (.int .i64 n) (.int .i64 d) (.string s) (.slice (some ⟨bb, off, none⟩) len cap) from (put5_heap _ _ _ _ _ _ _ _ (Ne.symm hgH)).trans HX4.out) _
            have hrow5 : W5.ownsRow wr.heap.size 24 5 (.slice (some ⟨g, 0, none⟩) len cap') (l.set q (.mk 9 0 0 ⟨#[]⟩ [])).length (((((xs.set (q * 5) (.int .i64 9)).set (q * 5 + 1) (.int .i64 0)).set (q * 5 + 2) (.int .i64 0)).set (q * 5 + 3) (.string ⟨#[]⟩)).set (q * 5 + 4) (.slice none 0 0)) := by
              rw [← hW5, List.length_set, ← HL.out]
              exact HO5.out.kept (grownBy_setCell4 _ _ _) (.inr (by simp only [Value.ownBlock, ne_eq, Option.some.injEq]; exact hgH))
            have hbr5 : Below w.heap.size wr W5 := ⟨hb5.os.trans HB.out.os.symm, hb5.tape.trans HB.out.tape.symm, hb5.output.trans HB.out.output.symm, by rw [← hW5, World.size_setCell, put5_size]; exact hsw, fun k hk => (hb5.block k hk).trans (HB.out.block k hk).symm⟩
            have hrep5 : RepD W5 W5.heap.size (.mk k n d s (l.set q (.mk 9 0 0 ⟨#[]⟩ []))) (.agg #[.int .i64 k, .int .i64 n, .int .i64 d, .string s, .slice (some ⟨g, 0, none⟩) len cap']) :=
              RepD.shut bk bn bd bs (repS_of_row hrow5 (CellsD.set (rep_leaf 9 0 0 ⟨#[]⟩ (by omega) (by omega) (by omega) (by decide)) (by rw [← HL.out]; exact hqlt) (HCS.out.mono fun x v h => h.kept hbr5)) hb5.size)
            have hwr : Dat.right (.mk k n d s (l.set q (.mk 9 0 0 ⟨#[]⟩ []))) 0 = false := wrong_part (by rw [← HL.out]; exact hqlt) _ _ _ _
            unfold put5 at hW5
            rw [hW5]
            obtain ⟨r0, r1, r2, r3, r4⟩ := hbx5.cells
            have HX5 := Lib.hid hbx5
            have HB5 := Lib.hid hb5
            have HR5 := Lib.hid hrep5
            have HW5 := Lib.hid hwr
            have hs5 := hb5.size
            have hlt5 := hbx5.lt
            clear hW5 hb5 hbx5 hrow5 hbr5 hrep5 hwr c0 c1 c2 c3 c4 z0 z1 z2 z3 z4 p0 p1 p2 p3 p4 f0 f1 f2 f3 f4
            refine (dright_to _ _ _ _ false HW5.out HR5.out (Nat.le_refl _)).mono ?_
            rintro e' w6 ⟨rfl, hb6⟩
            have hbx6 : Box5 w6 w.heap.size 24 (.int .i64 k) (.int .i64 n) (.int .i64 d) (.string s) (.slice (some ⟨g, 0, none⟩) len cap') := (hb6.block _ hlt5).trans HX5.out
            obtain ⟨p0, p1, p2, p3, p4⟩ := hbx6.cells
            have HB6 := Lib.hid hb6
            have hs6 := hb6.size
            clear hb6 hbx6 r0 r1 r2 r3 r4
            go_wp2_with fail
            refine (dtext_any _ _ _ _ (HR5.out.kept HB6.out) hs6 (env_kept hE (Below.next HB5.out HB6.out)) (fun h => by rw [HW5.out] at h; cases h)).mono ?_
            rw [show Dat.full (.mk k n d s (l.set q (.mk 9 0 0 ⟨#[]⟩ []))) = [] by unfold Dat.full; rw [HW5.out]; rfl]
            rintro e' w7 ⟨rfl, hb7⟩
            go_wp2
            go_ret
            exact ⟨rfl, Below.next (Below.next HB5.out HB6.out) hb7⟩
  · go_wp2_with fail
    refine (lfew_to _ _ 500 w.heap.size _ false (by rw [HY.out]; exact decide_eq_false (by omega)) (HR.out.kept HB1.out) (by omega) (by omega) (by omega)).mono ?_
    rintro e' w2 ⟨rfl, hb2⟩
    go_wp2
    go_ret
    exact ⟨rfl, Below.next HB1.out hb2⟩
end Go.Proofs.YtlpkpkcfgchngaaDoor

/-
  What the proofs lean on: ShL.
-/
import Derived.BigQuiet
import Derived.Test.YtigkhmppnnljiaaGreatDoorShiftA09
import Derived.Test.YtigkhmppnnljiaaGreatDoorShiftA20
import Derived.Test.YtigkhmppnnljiaaGreatDoorShiftA22
import Derived.Test.YtigkhmppnnljiaaGreatDoorShiftA24
import Derived.Test.YtigkhmppnnljiaaGreatDoorShiftA28
import Derived.Test.YtigkhmppnnljiaaGreatDoorShiftA38
namespace Go.Proofs.YtigkhmppnnljiaaGreatDoor
open Go Go.RowKit

/-- What the operations make that make the module. -/
def ShMR (mb : Nat) (cons : Value) (x : Trm) (k : Int) (bd : Value) (S : Nat) (i : Nat) (v : Value) (W : World) : Prop := match i with
  | 0 => v = .pointer (some ⟨mb, 0, none⟩)
  | 1 => v = cons
  | 2 => v = .pointer (some ⟨mb, 2, none⟩)
  | 3 => v = bd
  | 4 => v = .int .i64 k
  | 5 => ∃ (o n : Int) (ov ot : Option Addr) (lv cv lt ct : Nat), v = .agg #[.int .i64 o, .int .i64 n, .slice ov lv cv, .slice ot lt ct] ∧ TrmF W (fun b => S ≤ b) (x.shift (rk k)) [.int .i64 o, .int .i64 n, .slice ov lv cv, .slice ot lt ct]
  | 6 => ∃ (o n : Int) (ov ot : Option Addr) (lv cv lt ct : Nat), v = .agg #[cons, .slice none 0 0, .int .i64 o, .int .i64 n, .slice ov lv cv, .slice ot lt ct] ∧ TrmF W (fun b => S ≤ b) (x.shift (rk k)) [.int .i64 o, .int .i64 n, .slice ov lv cv, .slice ot lt ct]
  | 7 => ∃ b, v = .pointer (some ⟨b, 0, none⟩) ∧ S ≤ b ∧ BoxL W b 43 [.slice none 0 0, .slice none 0 0, .int .i64 0, .int .i64 0, .slice none 0 0, .slice none 0 0]
  | _ => True
theorem shMR_const {mb : Nat} {cons : Value} {x : Trm} {k : Int} {bd : Value} {S : Nat} : ∀ i v (A C : World), i < 8 → ShMR mb cons x k bd S i v A → Below A.heap.size A C → ShMR mb cons x k bd S i v C := by
  intro i v A C _ h hb
  match i, h with
  | 5, ⟨o, n, ov, ot, lv, cv, lt, ct, h1, h2⟩ => exact ⟨o, n, ov, ot, lv, cv, lt, ct, h1, h2.below hb⟩
  | 6, ⟨o, n, ov, ot, lv, cv, lt, ct, h1, h2⟩ => exact ⟨o, n, ov, ot, lv, cv, lt, ct, h1, h2.below hb⟩
  | 7, ⟨b, h1, h2, h3⟩ => exact ⟨b, h1, h2, h3.keep hb⟩
  | 0, h | 1, h | 2, h | 3, h | 4, h | i + 8, h => exact h

/-- What the operations make that make a code. -/
def ShCR (mb cb coff lp kp j : Nat) (rest : Bool) (x : Trm) (k : Int) (bd : Value) (S : Nat) (i : Nat) (v : Value) (W : World) : Prop := match i with
  | 0 | 6 => v = .pointer (some ⟨mb, 1, none⟩)
  | 1 | 7 => v = .slice (some ⟨cb, coff, none⟩) lp kp
  | 2 | 8 => v = .int .i64 j
  | 3 | 9 => v = .pointer (some ⟨cb, coff + j * 6, none⟩)
  | 4 => v = .pointer (some ⟨cb, coff + j * 6 + 1, none⟩)
  | 5 => v = .bool rest
  | 10 => v = .pointer (some ⟨cb, coff + j * 6 + 2, none⟩)
  | 11 => v = bd
  | 12 => v = .int .i64 k
  | 13 => ∃ (o n : Int) (ov ot : Option Addr) (lv cv lt ct : Nat), v = .agg #[.int .i64 o, .int .i64 n, .slice ov lv cv, .slice ot lt ct] ∧ TrmF W (fun b => S ≤ b) (x.shift (rk k)) [.int .i64 o, .int .i64 n, .slice ov lv cv, .slice ot lt ct]
  | 14 => ∃ (o n : Int) (ov ot : Option Addr) (lv cv lt ct : Nat), v = .agg #[.slice none 0 0, .bool rest, .int .i64 o, .int .i64 n, .slice ov lv cv, .slice ot lt ct] ∧ TrmF W (fun b => S ≤ b) (x.shift (rk k)) [.int .i64 o, .int .i64 n, .slice ov lv cv, .slice ot lt ct]
  | 15 => ∃ b, v = .pointer (some ⟨b, 0, none⟩) ∧ S ≤ b ∧ BoxL W b 50 [.slice none 0 0, .bool false, .int .i64 0, .int .i64 0, .slice none 0 0, .slice none 0 0]
  | _ => True
/-- What the operations of a code's variables' append make. -/
def ShXR (base xb mb cb coff lp kp i j : Nat) (lj : List Int) (x k : Int) (bsl vsl : Value) (ad : Addr) (S : Nat) (n : Nat) (v : Value) (W : World) : Prop := match n with
  | 0 => v = .pointer (some ⟨xb, 0, none⟩)
  | 1 => v = bsl
  | 2 => v = .pointer (some ⟨mb, 1, none⟩)
  | 3 => v = .slice (some ⟨cb, coff, none⟩) lp kp
  | 4 => v = .int .i64 i
  | 5 | 6 => v = .pointer (some ⟨cb, coff + i * 6, none⟩)
  | 7 => v = vsl
  | 8 => v = .int .i64 j
  | 9 => v = .pointer (some ad)
  | 10 => v = .int .i64 x
  | 11 => v = .int .i64 k
  | 12 => v = .int .i64 (wrap64 (x + k))
  | 13 => ∃ b, v = .slice (some ⟨b, 0, none⟩) 1 1 ∧ BoxL W b 3 [.int .i64 (wrap64 (x + k))]
  | 14 => ∃ (g cap : Nat), v = .slice (some ⟨g, 0, none⟩) (j + 1) cap ∧ W.ownsRow base 3 1 (.slice (some ⟨g, 0, none⟩) (j + 1) cap) (j + 1) (lj.map (Value.int .i64) ++ ([.int .i64 (wrap64 (x + k))] : List Value)) ∧ (bsl.ownBlock = some g ∨ S ≤ g)
  | _ => True
theorem shXR_const {base xb mb cb coff lp kp i j : Nat} {lj : List Int} {x k : Int} {bsl vsl : Value} {ad : Addr} {S : Nat} : ∀ n v (A C : World), n ≠ 14 → (n == 13) = false → ShXR base xb mb cb coff lp kp i j lj x k bsl vsl ad S n v A → ShXR base xb mb cb coff lp kp i j lj x k bsl vsl ad S n v C := by
  intro n v A C hi hu h
  match n, hi, hu, h with
  | 0, _, _, h | 1, _, _, h | 2, _, _, h | 3, _, _, h | 4, _, _, h | 5, _, _, h | 6, _, _, h | 7, _, _, h | 8, _, _, h | 9, _, _, h | 10, _, _, h | 11, _, _, h | 12, _, _, h | n + 15, _, _, h => exact h
theorem shXR_kept {base xb mb cb coff lp kp i j : Nat} {lj : List Int} {x k : Int} {bsl vsl : Value} {ad : Addr} {S : Nat} : ∀ n v (A C : World), n = 13 → ShXR base xb mb cb coff lp kp i j lj x k bsl vsl ad S n v A → Below A.heap.size A C → ShXR base xb mb cb coff lp kp i j lj x k bsl vsl ad S n v C := by
  rintro n v A C rfl ⟨b, h1, h2⟩ hb
  exact ⟨b, h1, h2.keep hb⟩
theorem shXR_app {base xb mb cb coff lp kp i j : Nat} {lj : List Int} {x k : Int} {bsl vsl : Value} {ad : Addr} {S : Nat} : ∀ v (A C : World), ShXR base xb mb cb coff lp kp i j lj x k bsl vsl ad S 14 v A → Below A.heap.size A C → ShXR base xb mb cb coff lp kp i j lj x k bsl vsl ad S 14 v C := by
  rintro v A C ⟨g, cap, h1, h2, h3⟩ hb
  exact ⟨g, cap, h1, ownsRow_keep h2 hb, h3⟩
theorem shCR_const {mb cb coff lp kp j : Nat} {rest : Bool} {x : Trm} {k : Int} {bd : Value} {S : Nat} : ∀ i v (A C : World), i < 16 → ShCR mb cb coff lp kp j rest x k bd S i v A → Below A.heap.size A C → ShCR mb cb coff lp kp j rest x k bd S i v C := by
  intro i v A C _ h hb
  match i, h with
  | 13, ⟨o, n, ov, ot, lv, cv, lt, ct, h1, h2⟩ => exact ⟨o, n, ov, ot, lv, cv, lt, ct, h1, h2.below hb⟩
  | 14, ⟨o, n, ov, ot, lv, cv, lt, ct, h1, h2⟩ => exact ⟨o, n, ov, ot, lv, cv, lt, ct, h1, h2.below hb⟩
  | 15, ⟨b, h1, h2, h3⟩ => exact ⟨b, h1, h2, h3.keep hb⟩
  | 0, h | 1, h | 2, h | 3, h | 4, h | 5, h | 6, h | 7, h | 8, h | 9, h | 10, h | 11, h | 12, h | i + 16, h => exact h

set_option maxHeartbeats 16000000 in
set_option maxRecDepth 100000 in
theorem flatShift_walk (m : Mdl) (v : Value) (by' : Int) (w : World) (hv : MdlR w w.heap.size m v) (hsh : m.short) :
    Calls Tryz.prog 6 #[v, .int .i64 by'] w fun e w' => e = .returned (.bool true) ∧ Below w.heap.size w w' := by
  have HSHORT := Lib.hid hsh
  clear hsh
  obtain ⟨k, hk⟩ : ∃ k, bits .and .i64 by' 1023 = k := ⟨_, rfl⟩
  have hk0 : 0 ≤ k ∧ k ≤ 1023 := hk ▸ and_mask by'
  have HKB := Lib.hid hk
  clear hk
  obtain ⟨B, hBe⟩ : ∃ B, w.heap.size = B := ⟨_, rfl⟩
  rw [hBe] at hv
  have hB : B ≤ w.heap.size := by omega
  have HV := Lib.hid hv
  obtain ⟨cc, pp, b0, b1, b2, b3, rfl, hcon, hcod, hbody⟩ := hv
  obtain ⟨oc, lc, kc, rfl⟩ : ∃ o l c, cc = .slice o l c := by obtain ⟨o, l, c, h, _⟩ := hcon; exact ⟨o, l, c, h⟩
  obtain ⟨op, lp, kp, rfl⟩ := hcod.form
  obtain ⟨q, r', u, q', r'', u', rfl, rfl, rfl, rfl⟩ := trm_form hbody
  have HCOD := Lib.hid hcod
  have HLP := Lib.hid hcod.lens.1
  have HBD := Lib.hid hbody
  have HCN := Lib.hid hcon
  clear hcon hcod hbody hBe
  obtain ⟨W1, hW1⟩ : ∃ W1, w.alloc (.cells #[.slice oc lc kc, .slice op lp kp, .int .i64 m.body.op, .int .i64 m.body.n, .slice q r' u, .slice q' r'' u'] 43) = W1 := ⟨_, rfl⟩
  have HB1 := Lib.hid (show Below w.heap.size w W1 from by rw [← hW1]; exact Below.one w _)
  have HX1 := Lib.hid (show BoxL W1 w.heap.size 43 [.slice oc lc kc, .slice op lp kp, .int .i64 m.body.op, .int .i64 m.body.n, .slice q r' u, .slice q' r'' u'] from by rw [← hW1]; exact BoxL.new rfl _ _)
  have HW1 := Lib.hid hW1
  have HA := Lib.hid (awake14_any W1)
  clear hW1
  go_enter Tryz.func6, Tryz.ntmps6
  go_upto_region 1 with fail
  rw [HW1.out]
  go_wp2_with fail
  with_reducible refine HA.out.mono ?_
  rintro e w2 ⟨rfl, hb2⟩
  have HB2 := Lib.hid (HB1.out.trans (hb2.mono HB1.out.size))
  have HX2 := Lib.hid (HX1.out.keep hb2)
  clear hb2 HA HW1
  have u0 := HX2.out.cell 0 rfl
  have u1 := HX2.out.cell 1 rfl
  have u2 := HX2.out.cell 2 rfl
  have u3 := HX2.out.cell 3 rfl
  have u4 := HX2.out.cell 4 rfl
  have u5 := HX2.out.cell 5 rfl
  have ul := HX2.out.lt
  obtain ⟨fw, hfw⟩ : ∃ fw, m.fewB 250 = fw := ⟨_, rfl⟩
  have HF := Lib.hid (few14_any m _ 250 B w2 (HV.out.kept (HB2.out.mono hB)) (by have := HB2.out.size; omega) (by omega) (by omega) fw hfw)
  go_wp2_with fail
  with_reducible refine HF.out.mono ?_
  rintro e w3 ⟨rfl, hb3⟩
  have HB3 := Lib.hid (HB2.out.trans (hb3.mono HB2.out.size))
  have HX3 := Lib.hid (HX2.out.keep hb3)
  clear hb3 HF u0 u1 u2 u3 u4 u5 ul
  cases fw with
  | false =>
    go_wp2_with fail
    go_ret
    exact ⟨rfl, HB3.out⟩
  | true =>
    have HK := Lib.hid (fmake_to m _ B w3 (HV.out.kept (HB3.out.mono hB)) (by have := HB3.out.size; omega) 250 (by omega) hfw)
    have HFW := Lib.hid hfw
    clear hfw
    have u0 := HX3.out.cell 0 rfl
    have u1 := HX3.out.cell 1 rfl
    have u2 := HX3.out.cell 2 rfl
    have u3 := HX3.out.cell 3 rfl
    have u4 := HX3.out.cell 4 rfl
    have u5 := HX3.out.cell 5 rfl
    have ul := HX3.out.lt
    go_upto_region 5 with fail
    rw [HKB.out]
    go_wp2_with fail
    with_reducible refine HK.out.mono ?_
    rintro e w4 ⟨cv, pv, rfl, hu, hb4⟩
    have HB4 := Lib.hid (HB3.out.trans (hb4.mono HB3.out.size))
    have HX4 := Lib.hid (HX3.out.keep hb4)
    have HU4 := Lib.hid hu
    obtain ⟨cv', pv', he, hcv, hpv⟩ := hu
    simp only [Value.agg.injEq, Array.mk.injEq, List.cons.injEq, and_true] at he
    obtain ⟨rfl, rfl⟩ := he
    obtain ⟨o0, l0, c0, rfl, hx0⟩ := hcv
    clear hx0
    obtain ⟨o1, np, c1, rfl⟩ := hpv.form
    obtain ⟨W5, hW5⟩ : ∃ W5, w4.alloc (.cells #[.slice o0 l0 c0, .slice o1 np c1] 25) = W5 := ⟨_, rfl⟩
    have HB45 := Lib.hid (show Below w4.heap.size w4 W5 from by rw [← hW5]; exact Below.one w4 _)
    have HU5 := Lib.hid (show BoxL W5 w4.heap.size 25 [.slice o0 l0 c0, .slice o1 np c1] from by rw [← hW5]; exact BoxL.new rfl _ _)
    have HX5 := Lib.hid (HX4.out.keep HB45.out)
    have HB5 := Lib.hid (HB4.out.trans (HB45.out.mono HB4.out.size))
    have HW5 := Lib.hid hW5
    clear hb4 HK u0 u1 u2 u3 u4 u5 ul hW5 hpv
    obtain ⟨E, hE⟩ : ∃ E, m.makeErr Mk.lkL = E := ⟨_, rfl⟩
    rw [hE]
    have HE := Lib.hid hE
    clear hE
    go_upto_region 6 with fail
    rw [HW5.out]
    have HD := Lib.hid ((Below.refl W5.heap.size W5).drew)
    refine wp_region_mono 8 (ShMR w.heap.size (.slice oc lc kc) m.body k (.agg #[.int .i64 m.body.op, .int .i64 m.body.n, .slice q r' u, .slice q' r'' u']) W5.heap.size) (fun A C => Below A.heap.size A C) (by kernel_rfl) (by show monoB _ 8 107 = true; kernel_rfl) (fun h k => Below.next h k) (Below.refl _ _) (fun i v A C hi h hb => shMR_const i v A C hi h hb) ?hops ?hend
    case hops =>
      intro i o hi ho a w1 hdf hsz hex hdep hrest
      have HX := Lib.hid (show Below W5.heap.size W5 w1 from Below.next HD.out hex)
      match i, hi with
      | 0, _ =>
        obtain rfl : _ = o := Option.some.inj ho
        have h2 : a.tmps.getD 2 undef = .pointer (some ⟨w.heap.size, 0, none⟩) := hrest.at 2 (by kernel_rfl)
        exact wpList_value (v := .pointer (some ⟨w.heap.size, 0, none⟩)) (w' := w1) rfl (by go_simp) ⟨rfl, _, rfl, rfl, Below.refl _ _⟩
      | 1, _ =>
        obtain rfl : _ = o := Option.some.inj ho
        have h27 : a.tmps.getD 27 undef = .pointer (some ⟨w.heap.size, 0, none⟩) := dep_at hdep 0 27 (by kernel_rfl)
        have hx := HX5.out.keep HX.out
        have g0 := hx.cell 0 rfl
        have g2 := hx.cell 2 rfl
        have g3 := hx.cell 3 rfl
        have g4 := hx.cell 4 rfl
        have g5 := hx.cell 5 rfl
        have gl := hx.lt
        exact wpList_value (v := .slice oc lc kc) (w' := w1) rfl (by go_simp) ⟨rfl, _, rfl, rfl, Below.refl _ _⟩
      | 2, _ =>
        obtain rfl : _ = o := Option.some.inj ho
        have h2 : a.tmps.getD 2 undef = .pointer (some ⟨w.heap.size, 0, none⟩) := hrest.at 2 (by kernel_rfl)
        exact wpList_value (v := .pointer (some ⟨w.heap.size, 2, none⟩)) (w' := w1) rfl (by go_simp) ⟨rfl, _, rfl, rfl, Below.refl _ _⟩
      | 3, _ =>
        obtain rfl : _ = o := Option.some.inj ho
        have h29 : a.tmps.getD 29 undef = .pointer (some ⟨w.heap.size, 2, none⟩) := dep_at hdep 2 29 (by kernel_rfl)
        have hx := HX5.out.keep HX.out
        have g0 := hx.cell 0 rfl
        have g2 := hx.cell 2 rfl
        have g3 := hx.cell 3 rfl
        have g4 := hx.cell 4 rfl
        have g5 := hx.cell 5 rfl
        have gl := hx.lt
        exact wpList_value (v := .agg #[.int .i64 m.body.op, .int .i64 m.body.n, .slice q r' u, .slice q' r'' u']) (w' := w1) rfl (by go_simp) ⟨rfl, _, rfl, rfl, Below.refl _ _⟩
      | 4, _ =>
        obtain rfl : _ = o := Option.some.inj ho
        have h6 : a.tmps.getD 6 undef = .int .i64 k := hrest.at 6 (by kernel_rfl)
        exact wpList_value (v := .int .i64 k) (w' := w1) rfl (by go_simp) ⟨rfl, _, rfl, rfl, Below.refl _ _⟩
      | 5, _ =>
        obtain rfl : _ = o := Option.some.inj ho
        have h30 : a.tmps.getD 30 undef = .agg #[.int .i64 m.body.op, .int .i64 m.body.n, .slice q r' u, .slice q' r'' u'] := dep_at hdep 3 30 (by kernel_rfl)
        have h31 : a.tmps.getD 31 undef = .int .i64 k := dep_at hdep 4 31 (by kernel_rfl)
        refine wpList_callF2 rfl rfl h30 h31 (fun _ _ => rfl) (shift_any k hk0 m.body _ _ _ _ B w1 (TrmR.kept ((HB5.out.trans (HX.out.mono HB5.out.size)).mono hB) _ _ HBD.out) (by have := HB5.out.size; have := HX.out.size; omega) HSHORT.out.2 (by have := (Mdl.few_facts HFW.out).2.2.2.1; omega)) ?_
        rintro e w8 ⟨o8, n8, ov8, ot8, lv8, cv8, lt8, ct8, rfl, h8, hb8⟩
        exact ⟨_, rfl, _, rfl, ⟨o8, n8, ov8, ot8, lv8, cv8, lt8, ct8, rfl, h8.keep (Nat.le_refl _) (fun b _ hb => Nat.le_trans HX.out.size hb) (fun _ _ _ _ => rfl)⟩, hb8⟩
      | 6, _ =>
        obtain rfl : _ = o := Option.some.inj ho
        have h28 : a.tmps.getD 28 undef = .slice oc lc kc := dep_at hdep 1 28 (by kernel_rfl)
        obtain ⟨o8, n8, ov8, ot8, lv8, cv8, lt8, ct8, h32, h8⟩ : ∃ (o n : Int) (ov ot : Option Addr) (lv cv lt ct : Nat), a.tmps.getD 32 undef = .agg #[.int .i64 o, .int .i64 n, .slice ov lv cv, .slice ot lt ct] ∧ TrmF w1 (fun b => W5.heap.size ≤ b) (m.body.shift (rk k)) [.int .i64 o, .int .i64 n, .slice ov lv cv, .slice ot lt ct] := dep_at hdep 5 32 (by kernel_rfl)
        exact wpList_build2 (v := .agg #[.slice oc lc kc, .slice none 0 0, .int .i64 o8, .int .i64 n8, .slice ov8 lv8 cv8, .slice ot8 lt8 ct8]) rfl rfl h28 h32 (by go_simp) ⟨rfl, _, rfl, ⟨o8, n8, ov8, ot8, lv8, cv8, lt8, ct8, rfl, h8⟩, Below.refl _ _⟩
      | 7, _ =>
        obtain rfl : _ = o := Option.some.inj ho
        exact wpList_value (v := .pointer (some ⟨w1.heap.size, 0, none⟩)) (w' := w1.alloc (.cells #[.slice none 0 0, .slice none 0 0, .int .i64 0, .int .i64 0, .slice none 0 0, .slice none 0 0] 43)) rfl (by go_simp) ⟨rfl, _, rfl, ⟨_, rfl, HX.out.size, BoxL.new rfl _ _⟩, Below.one _ _⟩
    case hend =>
      intro a w1 hdf hsz hex hval hrest
      obtain ⟨o9, n9, ov9, ot9, lv9, cv9, lt9, ct9, h33, h8⟩ : ∃ (o n : Int) (ov ot : Option Addr) (lv cv lt ct : Nat), a.tmps.getD 33 undef = .agg #[.slice oc lc kc, .slice none 0 0, .int .i64 o, .int .i64 n, .slice ov lv cv, .slice ot lt ct] ∧ TrmF w1 (fun b => W5.heap.size ≤ b) (m.body.shift (rk k)) [.int .i64 o, .int .i64 n, .slice ov lv cv, .slice ot lt ct] := hval 6 _ 33 (by omega) rfl rfl
      obtain ⟨nb, h9, hnb, hxn⟩ : ∃ b, a.tmps.getD 9 undef = .pointer (some ⟨b, 0, none⟩) ∧ W5.heap.size ≤ b ∧ BoxL w1 b 43 [.slice none 0 0, .slice none 0 0, .int .i64 0, .int .i64 0, .slice none 0 0, .slice none 0 0] := hval 7 _ 9 (by omega) rfl rfl
      obtain ⟨f, ha, hf⟩ := act_spell [false, false, false, false, false, false, false, false, false, true, false, false, false, false, false, false, false, false, false, false, false, false, false, false, false, false, false, true, true, true, true, true, true, true] (by kernel_rfl) hdf hsz hrest
      rw [← hf] at h33 h9
      subst ha
      have HX := Lib.hid (show Below W5.heap.size W5 w1 from Below.next HD.out hex)
      clear hval hrest hf hex hdf hsz
      simp only [spell, h33, h9, List.drop_succ_cons, List.drop_zero]
      have z0 := hxn.cell 0 rfl
      have z1 := hxn.cell 1 rfl
      have z2 := hxn.cell 2 rfl
      have z3 := hxn.cell 3 rfl
      have z4 := hxn.cell 4 rfl
      have z5 := hxn.cell 5 rfl
      have y0 := hxn.free 0
      have y1 := hxn.free 1
      have y2 := hxn.free 2
      have y3 := hxn.free 3
      have y4 := hxn.free 4
      have y5 := hxn.free 5
      have yl := hxn.lt
      go_wp2_with fail
      have HS6 := Lib.hid (SL.start (cons := .slice oc lc kc) HX.out hnb hxn rfl h8)
      obtain ⟨W6, hW6⟩ : ∃ W6, ((((((w1.setCell ⟨nb, 0, none⟩ (.slice oc lc kc)).setCell ⟨nb, 1, none⟩ (.slice none 0 0)).setCell ⟨nb, 2, none⟩ (.int .i64 o9)).setCell ⟨nb, 3, none⟩ (.int .i64 n9)).setCell ⟨nb, 4, none⟩ (.slice ov9 lv9 cv9)).setCell ⟨nb, 5, none⟩ (.slice ot9 lt9 ct9)) = W6 := ⟨_, rfl⟩
      rw [hW6] at HS6 ⊢
      clear hW6 z0 z1 z2 z3 z4 z5 y0 y1 y2 y3 y4 y5 yl hxn h8 h33 h9
      go_loopg [10] lp (fun g i wr => ∃ (j : Nat) (csl : Value), g = lp - j ∧ j ≤ lp ∧ i = .int .i64 j ∧ Hid (SL W5 wr nb (.slice oc lc kc) csl (.int .i64 o9) (.int .i64 n9) (.slice ov9 lv9 cv9) (.slice ot9 lt9 ct9) (m.body.shift (rk k)) ((m.codes.take j).map (Cod.shift (rk k))) j))
      case atStart => exact ⟨0, .slice none 0 0, rfl, by omega, rfl, by simpa using HS6⟩
      case round =>
        obtain ⟨j, csl, rfl, hj, rfl, HSJ⟩ := hrel
        obtain ⟨wo, hwo⟩ : ∃ wo, wo = wr := ⟨_, rfl⟩
        subst hwo
        have HB5r := Lib.hid (show Below W5.heap.size W5 wo from HSJ.out.turn.below (fun _ h => h) (Nat.le_refl _))
        have HXM := Lib.hid (HX5.out.keep HB5r.out)
        have m1 := HXM.out.cell 1 rfl
        have ml := HXM.out.lt
        have hbr : B ≤ wo.heap.size := Nat.le_trans hB (Nat.le_trans HB5.out.size HB5r.out.size)
        by_cases hjl : j < lp
        · obtain ⟨c, hc⟩ : ∃ c, m.codes[j]? = some c := ⟨_, List.getElem?_eq_getElem (by rw [← HLP.out]; exact hjl)⟩
          have hwr : Below B w wo := (HB5.out.trans (HB5r.out.mono HB5.out.size)).mono hB
          obtain ⟨cb, coff, cs, ho, hcb, hcl, hcell, hir⟩ := SlC.at HCOD.out hwr hc
          subst ho
          obtain ⟨ovc, lvc, cvc, q1, l1, k1, q2, l2, k2, rfl, hcv, hcbd⟩ := codR_shape hir
          have HCV := Lib.hid (hcv.kept hwr fun _ _ _ h => h)
          have HCB := Lib.hid (TrmR.kept hwr _ _ hcbd)
          have HCS := Lib.hid (HSHORT.out.1 c (List.mem_of_getElem? hc))
          have HCA := Lib.hid ((Mdl.few_facts HFW.out).2.2.2.2.1 c (List.mem_of_getElem? hc))
          have HXC := Lib.hid (show ∀ w1, Below B wo w1 → w1.cell? ⟨cb, coff + j * 6, none⟩ = some (.slice ovc lvc cvc) ∧ w1.cell? ⟨cb, coff + j * 6 + 1, none⟩ = some (.bool c.rest) ∧ w1.cell? ⟨cb, coff + j * 6 + 2, none⟩ = some (.int .i64 c.body.op) ∧ w1.cell? ⟨cb, coff + j * 6 + 3, none⟩ = some (.int .i64 c.body.n) ∧ w1.cell? ⟨cb, coff + j * 6 + 4, none⟩ = some (.slice q1 l1 k1) ∧ w1.cell? ⟨cb, coff + j * 6 + 5, none⟩ = some (.slice q2 l2 k2) from fun w1 h => ⟨(h.cell (p := ⟨cb, coff + j * 6, none⟩) hcb).trans (hcell 0 _ rfl), (h.cell (p := ⟨cb, coff + j * 6 + 1, none⟩) hcb).trans (hcell 1 _ rfl), (h.cell (p := ⟨cb, coff + j * 6 + 2, none⟩) hcb).trans (hcell 2 _ rfl), (h.cell (p := ⟨cb, coff + j * 6 + 3, none⟩) hcb).trans (hcell 3 _ rfl), (h.cell (p := ⟨cb, coff + j * 6 + 4, none⟩) hcb).trans (hcell 4 _ rfl), (h.cell (p := ⟨cb, coff + j * 6 + 5, none⟩) hcb).trans (hcell 5 _ rfl)⟩)
          have HCT := Lib.hid (show (m.codes.take (j + 1)).map (Cod.shift (rk k)) = (m.codes.take j).map (Cod.shift (rk k)) ++ [c.shift (rk k)] by rw [List.take_add_one, hc, List.map_append]; rfl)
          clear hc hcell hir hcv hcbd hcl
          go_upto_region 10 with fail
          have HD := Lib.hid ((Below.refl wo.heap.size wo).drew)
          refine wp_region_mono 16 (ShCR w.heap.size cb coff lp kp j c.rest c.body k (.agg #[.int .i64 c.body.op, .int .i64 c.body.n, .slice q1 l1 k1, .slice q2 l2 k2]) wo.heap.size) (fun A C => Below A.heap.size A C) (by kernel_rfl) (by show monoB _ 16 107 = true; kernel_rfl) (fun h k => Below.next h k) (Below.refl _ _) (fun i v A C hi h hb => shCR_const i v A C hi h hb) ?hops ?hend
          case hops =>
            intro i o hi ho a w1 hdf hsz hex hdep hrest
            have HX := Lib.hid (show Below wo.heap.size wo w1 from Below.next HD.out hex)
            match i, hi with
            | 0, _ =>
              obtain rfl : _ = o := Option.some.inj ho
              have h2 : a.tmps.getD 2 undef = .pointer (some ⟨w.heap.size, 0, none⟩) := hrest.at 2 (by kernel_rfl)
              exact wpList_value (v := .pointer (some ⟨w.heap.size, 1, none⟩)) (w' := w1) rfl (by go_simp) ⟨rfl, _, rfl, rfl, Below.refl _ _⟩
            | 1, _ =>
              obtain rfl : _ = o := Option.some.inj ho
              have h41 : a.tmps.getD 41 undef = .pointer (some ⟨w.heap.size, 1, none⟩) := dep_at hdep 0 41 (by kernel_rfl)
              have hx := HXM.out.keep HX.out
              have g1 := hx.cell 1 rfl
              have gl := hx.lt
              exact wpList_value (v := .slice (some ⟨cb, coff, none⟩) lp kp) (w' := w1) rfl (by go_simp) ⟨rfl, _, rfl, rfl, Below.refl _ _⟩
            | 2, _ =>
              obtain rfl : _ = o := Option.some.inj ho
              have h10 : a.tmps.getD 10 undef = .int .i64 j := hrest.at 10 (by kernel_rfl)
              exact wpList_value (v := .int .i64 j) (w' := w1) rfl (by go_simp) ⟨rfl, _, rfl, rfl, Below.refl _ _⟩
            | 3, _ =>
              obtain rfl : _ = o := Option.some.inj ho
              have h42 : a.tmps.getD 42 undef = .slice (some ⟨cb, coff, none⟩) lp kp := dep_at hdep 1 42 (by kernel_rfl)
              have h43 : a.tmps.getD 43 undef = .int .i64 j := dep_at hdep 2 43 (by kernel_rfl)
              exact wpList_value (v := .pointer (some ⟨cb, coff + j * 6, none⟩)) (w' := w1) rfl (by go_simp) ⟨rfl, _, rfl, rfl, Below.refl _ _⟩
            | 4, _ =>
              obtain rfl : _ = o := Option.some.inj ho
              have h44 : a.tmps.getD 44 undef = .pointer (some ⟨cb, coff + j * 6, none⟩) := dep_at hdep 3 44 (by kernel_rfl)
              exact wpList_value (v := .pointer (some ⟨cb, coff + j * 6 + 1, none⟩)) (w' := w1) rfl (by go_simp) ⟨rfl, _, rfl, rfl, Below.refl _ _⟩
            | 5, _ =>
              obtain rfl : _ = o := Option.some.inj ho
              have h45 : a.tmps.getD 45 undef = .pointer (some ⟨cb, coff + j * 6 + 1, none⟩) := dep_at hdep 4 45 (by kernel_rfl)
              obtain ⟨e0, e1, e2, e3, e4, e5⟩ := HXC.out w1 (HX.out.mono hbr)
              have el := cell_lt e0
              exact wpList_value (v := .bool c.rest) (w' := w1) rfl (by go_simp) ⟨rfl, _, rfl, rfl, Below.refl _ _⟩
            | 6, _ =>
              obtain rfl : _ = o := Option.some.inj ho
              have h2 : a.tmps.getD 2 undef = .pointer (some ⟨w.heap.size, 0, none⟩) := hrest.at 2 (by kernel_rfl)
              exact wpList_value (v := .pointer (some ⟨w.heap.size, 1, none⟩)) (w' := w1) rfl (by go_simp) ⟨rfl, _, rfl, rfl, Below.refl _ _⟩
            | 7, _ =>
              obtain rfl : _ = o := Option.some.inj ho
              have h47 : a.tmps.getD 47 undef = .pointer (some ⟨w.heap.size, 1, none⟩) := dep_at hdep 6 47 (by kernel_rfl)
              have hx := HXM.out.keep HX.out
              have g1 := hx.cell 1 rfl
              have gl := hx.lt
              exact wpList_value (v := .slice (some ⟨cb, coff, none⟩) lp kp) (w' := w1) rfl (by go_simp) ⟨rfl, _, rfl, rfl, Below.refl _ _⟩
            | 8, _ =>
              obtain rfl : _ = o := Option.some.inj ho
              have h10 : a.tmps.getD 10 undef = .int .i64 j := hrest.at 10 (by kernel_rfl)
              exact wpList_value (v := .int .i64 j) (w' := w1) rfl (by go_simp) ⟨rfl, _, rfl, rfl, Below.refl _ _⟩
            | 9, _ =>
              obtain rfl : _ = o := Option.some.inj ho
              have h48 : a.tmps.getD 48 undef = .slice (some ⟨cb, coff, none⟩) lp kp := dep_at hdep 7 48 (by kernel_rfl)
              have h49 : a.tmps.getD 49 undef = .int .i64 j := dep_at hdep 8 49 (by kernel_rfl)
              exact wpList_value (v := .pointer (some ⟨cb, coff + j * 6, none⟩)) (w' := w1) rfl (by go_simp) ⟨rfl, _, rfl, rfl, Below.refl _ _⟩
            | 10, _ =>
              obtain rfl : _ = o := Option.some.inj ho
              have h50 : a.tmps.getD 50 undef = .pointer (some ⟨cb, coff + j * 6, none⟩) := dep_at hdep 9 50 (by kernel_rfl)
              exact wpList_value (v := .pointer (some ⟨cb, coff + j * 6 + 2, none⟩)) (w' := w1) rfl (by go_simp) ⟨rfl, _, rfl, rfl, Below.refl _ _⟩
            | 11, _ =>
              obtain rfl : _ = o := Option.some.inj ho
              have h51 : a.tmps.getD 51 undef = .pointer (some ⟨cb, coff + j * 6 + 2, none⟩) := dep_at hdep 10 51 (by kernel_rfl)
              obtain ⟨e0, e1, e2, e3, e4, e5⟩ := HXC.out w1 (HX.out.mono hbr)
              have el := cell_lt e0
              exact wpList_value (v := .agg #[.int .i64 c.body.op, .int .i64 c.body.n, .slice q1 l1 k1, .slice q2 l2 k2]) (w' := w1) rfl (by go_simp) ⟨rfl, _, rfl, rfl, Below.refl _ _⟩
            | 12, _ =>
              obtain rfl : _ = o := Option.some.inj ho
              have h6 : a.tmps.getD 6 undef = .int .i64 k := hrest.at 6 (by kernel_rfl)
              exact wpList_value (v := .int .i64 k) (w' := w1) rfl (by go_simp) ⟨rfl, _, rfl, rfl, Below.refl _ _⟩
            | 13, _ =>
              obtain rfl : _ = o := Option.some.inj ho
              have h52 : a.tmps.getD 52 undef = .agg #[.int .i64 c.body.op, .int .i64 c.body.n, .slice q1 l1 k1, .slice q2 l2 k2] := dep_at hdep 11 52 (by kernel_rfl)
              have h53 : a.tmps.getD 53 undef = .int .i64 k := dep_at hdep 12 53 (by kernel_rfl)
              refine wpList_callF2 rfl rfl h52 h53 (fun _ _ => rfl) (shift_any k hk0 c.body _ _ _ _ B w1 (TrmR.kept (HX.out.mono hbr) _ _ HCB.out) (Nat.le_trans hbr HX.out.size) HCS.out.2 (by have := HCA.out; omega)) ?_
              rintro e w8 ⟨o8, n8, ov8, ot8, lv8, cv8, lt8, ct8, rfl, h8, hb8⟩
              exact ⟨_, rfl, _, rfl, ⟨o8, n8, ov8, ot8, lv8, cv8, lt8, ct8, rfl, h8.keep (Nat.le_refl _) (fun b _ hb => Nat.le_trans HX.out.size hb) (fun _ _ _ _ => rfl)⟩, hb8⟩
            | 14, _ =>
              obtain rfl : _ = o := Option.some.inj ho
              have h46 : a.tmps.getD 46 undef = .bool c.rest := dep_at hdep 5 46 (by kernel_rfl)
              obtain ⟨o8, n8, ov8, ot8, lv8, cv8, lt8, ct8, h54, h8⟩ : ∃ (o n : Int) (ov ot : Option Addr) (lv cv lt ct : Nat), a.tmps.getD 54 undef = .agg #[.int .i64 o, .int .i64 n, .slice ov lv cv, .slice ot lt ct] ∧ TrmF w1 (fun b => wo.heap.size ≤ b) (c.body.shift (rk k)) [.int .i64 o, .int .i64 n, .slice ov lv cv, .slice ot lt ct] := dep_at hdep 13 54 (by kernel_rfl)
              exact wpList_build2 (v := .agg #[.slice none 0 0, .bool c.rest, .int .i64 o8, .int .i64 n8, .slice ov8 lv8 cv8, .slice ot8 lt8 ct8]) rfl rfl h46 h54 (by go_simp) ⟨rfl, _, rfl, ⟨o8, n8, ov8, ot8, lv8, cv8, lt8, ct8, rfl, h8⟩, Below.refl _ _⟩
            | 15, _ =>
              obtain rfl : _ = o := Option.some.inj ho
              exact wpList_value (v := .pointer (some ⟨w1.heap.size, 0, none⟩)) (w' := w1.alloc (.cells #[.slice none 0 0, .bool false, .int .i64 0, .int .i64 0, .slice none 0 0, .slice none 0 0] 50)) rfl (by go_simp) ⟨rfl, _, rfl, ⟨_, rfl, HX.out.size, BoxL.new rfl _ _⟩, Below.one _ _⟩
            | i + 16, hi => exact absurd hi (by omega)
          case hend =>
            intro a w1 hdf hsz hex hval hrest
            obtain ⟨o8, n8, ov8, ot8, lv8, cv8, lt8, ct8, h55, h8⟩ : ∃ (o n : Int) (ov ot : Option Addr) (lv cv lt ct : Nat), a.tmps.getD 55 undef = .agg #[.slice none 0 0, .bool c.rest, .int .i64 o, .int .i64 n, .slice ov lv cv, .slice ot lt ct] ∧ TrmF w1 (fun b => wo.heap.size ≤ b) (c.body.shift (rk k)) [.int .i64 o, .int .i64 n, .slice ov lv cv, .slice ot lt ct] := hval 14 _ 55 (by omega) rfl rfl
            obtain ⟨xb, h11, hxb, hxn⟩ : ∃ b, a.tmps.getD 11 undef = .pointer (some ⟨b, 0, none⟩) ∧ wo.heap.size ≤ b ∧ BoxL w1 b 50 [.slice none 0 0, .bool false, .int .i64 0, .int .i64 0, .slice none 0 0, .slice none 0 0] := hval 15 _ 11 (by omega) rfl rfl
            obtain ⟨f, ha, hf⟩ := act_spell [false, false, false, false, false, false, false, false, false, false, false, true, false, false, false, false, false, false, false, false, false, false, false, false, false, false, false, false, false, false, false, false, false, false, false, false, false, false, false, false, false, true, true, true, true, true, true, true, true, true, true, true, true, true, true, true] (by kernel_rfl) hdf hsz hrest
            rw [← hf] at h55 h11
            subst ha
            have HX := Lib.hid (show Below wo.heap.size wo w1 from Below.next HD.out hex)
            clear hval hrest hf hex hdf hsz
            simp only [spell, h55, h11, List.drop_succ_cons, List.drop_zero]
            have z0 := hxn.cell 0 rfl
            have z1 := hxn.cell 1 rfl
            have z2 := hxn.cell 2 rfl
            have z3 := hxn.cell 3 rfl
            have z4 := hxn.cell 4 rfl
            have z5 := hxn.cell 5 rfl
            have y0 := hxn.free 0
            have y1 := hxn.free 1
            have y2 := hxn.free 2
            have y3 := hxn.free 3
            have y4 := hxn.free 4
            have y5 := hxn.free 5
            have yl := hxn.lt
            go_wp2_with fail
            have HI10 := Lib.hid (XI.start (rest := c.rest) HX.out hxb hxn rfl h8)
            obtain ⟨W10, hW10⟩ : ∃ W10, ((((((w1.setCell ⟨xb, 0, none⟩ (.slice none 0 0)).setCell ⟨xb, 1, none⟩ (.bool c.rest)).setCell ⟨xb, 2, none⟩ (.int .i64 o8)).setCell ⟨xb, 3, none⟩ (.int .i64 n8)).setCell ⟨xb, 4, none⟩ (.slice ov8 lv8 cv8)).setCell ⟨xb, 5, none⟩ (.slice ot8 lt8 ct8)) = W10 := ⟨_, rfl⟩
            rw [hW10] at HI10 ⊢
            clear hW10 z0 z1 z2 z3 z4 z5 y0 y1 y2 y3 y4 y5 yl hxn h8 h55 h11 m1 ml
            go_loopg [12] lvc (fun g i wr => ∃ (j2 : Nat) (vsl : Value), g = lvc - j2 ∧ j2 ≤ lvc ∧ i = .int .i64 j2 ∧ Hid (XI wo wr xb c.rest vsl (.int .i64 o8) (.int .i64 n8) (.slice ov8 lv8 cv8) (.slice ot8 lt8 ct8) (c.body.shift (rk k)) ((c.v.take j2).map (rk k)) j2))
            case atStart => exact ⟨0, .slice none 0 0, rfl, by omega, rfl, by simpa using HI10⟩
            case round =>
              obtain ⟨j2, vsl, rfl, hj2, rfl, HIJ⟩ := hrel
              have HBI := Lib.hid (show Below wo.heap.size wo wr from HIJ.out.turn.below (fun _ h => h) (Nat.le_refl _))
              have HXM2 := Lib.hid (HXM.out.keep HBI.out)
              have m1 := HXM2.out.cell 1 rfl
              have ml := HXM2.out.lt
              obtain ⟨e0, e1, e2, e3, e4, e5⟩ := HXC.out wr (HBI.out.mono hbr)
              have el := cell_lt e0
              by_cases hjl2 : j2 < lvc
              · obtain ⟨x, hx⟩ : ∃ x, c.v[j2]? = some x := ⟨_, List.getElem?_eq_getElem (by rw [← HCV.out.lens.1]; exact hjl2)⟩
                obtain ⟨vb, voff, cs, ho, hvb, hcl, hcell, hir⟩ := HCV.out.at (Below.refl _ _) hx
                subst ho
                obtain ⟨rfl, hxi⟩ := hir
                have hv0 := hcell 0 _ rfl
                simp only [Nat.add_zero, Nat.mul_one] at hv0
                obtain ⟨ob, cb2, rfl⟩ := HIJ.out.form
                obtain ⟨lj, hlj⟩ : ∃ lj, (c.v.take j2).map (rk k) = lj := ⟨_, rfl⟩
                rw [hlj] at HIJ
                have HVT := Lib.hid (show (c.v.take (j2 + 1)).map (rk k) = lj ++ [wrap64 (x + k)] by rw [List.take_add_one, hx, List.map_append, hlj]; simp [rk_i64 hxi])
                have HVC := Lib.hid hv0
                have hvbr : vb < wo.heap.size := Nat.lt_of_lt_of_le hvb hbr
                have hlvs : lvc * 8 ≤ 140737488351232 := by rw [HCV.out.lens.1]; exact HCS.out.1
                have hcvc : lvc ≤ cvc ∧ cvc ≤ 9223372036854775807 := HCV.out.lens.2
                have HLOW := Lib.hid (show ∀ w1, Turned (fun b => (Value.slice ob j2 cb2).ownBlock = some b) wr w1 → Below wo.heap.size wo w1 from fun w1 h => HBI.out.trans (h.below (fun b hb => own_base HIJ.out.vrow b hb) HBI.out.size))
                clear hx hcell hlj hv0 hcl
                go_upto_region 14 with fail
                clear m1 ml e0 e1 e2 e3 e4 e5 el
                have HD5 := Lib.hid ((Below.refl wr.heap.size wr).drew)
                refine wp_region_turnT 15 14 (fun i => i == 13) (ShXR wo.heap.size xb w.heap.size cb coff lp kp j j2 lj x k (.slice ob j2 cb2) (.slice (some ⟨vb, voff, none⟩) lvc cvc) ⟨vb, voff + j2, none⟩ wr.heap.size) (fun A C => Turned (fun b => (Value.slice ob j2 cb2).ownBlock = some b) A C) (fun A C => Below A.heap.size A C) (by kernel_rfl) (by show turnT _ 15 107 14 _ = true; kernel_rfl) (fun h k => h.next k) (fun h k => Below.next h k) (fun _ k => Turned.of_below k) (Turned.refl _ _) (Below.refl _ _) (fun i v A C hi hu h _ => shXR_const i v A C hi hu h) (fun i v A C hu h hb => shXR_kept i v A C (by simpa using hu) h hb) (fun v A C h hb => shXR_app v A C h hb) ?hops ?hend
                case hops =>
                  intro i o hi ho a w1 hdf hsz hex hpre hdep hrest
                  have HX := Lib.hid (show Turned (fun b => (Value.slice ob j2 cb2).ownBlock = some b) wr w1 from (Turned.of_below HD5.out).next hex)
                  match i, hi with
                  | 0, _ =>
                    obtain rfl : _ = o := Option.some.inj ho
                    have h11 : a.tmps.getD 11 undef = .pointer (some ⟨xb, 0, none⟩) := hrest.at 11 (by kernel_rfl)
                    exact wpList_value (v := .pointer (some ⟨xb, 0, none⟩)) (w' := w1) rfl (by go_simp) ⟨rfl, _, rfl, rfl, Below.refl _ _⟩
                  | 1, _ =>
                    obtain rfl : _ = o := Option.some.inj ho
                    have h67 : a.tmps.getD 67 undef = .pointer (some ⟨xb, 0, none⟩) := dep_at hdep 0 67 (by kernel_rfl)
                    have hbx := HX.out.box HIJ.out.box HIJ.out.own
                    have g0 := hbx.cell 0 rfl
                    have gl := hbx.lt
                    exact wpList_value (v := .slice ob j2 cb2) (w' := w1) rfl (by go_simp) ⟨rfl, _, rfl, rfl, Below.refl _ _⟩
                  | 2, _ =>
                    obtain rfl : _ = o := Option.some.inj ho
                    have h2 : a.tmps.getD 2 undef = .pointer (some ⟨w.heap.size, 0, none⟩) := hrest.at 2 (by kernel_rfl)
                    exact wpList_value (v := .pointer (some ⟨w.heap.size, 1, none⟩)) (w' := w1) rfl (by go_simp) ⟨rfl, _, rfl, rfl, Below.refl _ _⟩
                  | 3, _ =>
                    obtain rfl : _ = o := Option.some.inj ho
                    have h69 : a.tmps.getD 69 undef = .pointer (some ⟨w.heap.size, 1, none⟩) := dep_at hdep 2 69 (by kernel_rfl)
                    have hlow := HLOW.out w1 HX.out
                    have hx := HXM.out.keep hlow
                    have g1 := hx.cell 1 rfl
                    have gl := hx.lt
                    exact wpList_value (v := .slice (some ⟨cb, coff, none⟩) lp kp) (w' := w1) rfl (by go_simp) ⟨rfl, _, rfl, rfl, Below.refl _ _⟩
                  | 4, _ =>
                    obtain rfl : _ = o := Option.some.inj ho
                    have h10 : a.tmps.getD 10 undef = .int .i64 j := hrest.at 10 (by kernel_rfl)
                    exact wpList_value (v := .int .i64 j) (w' := w1) rfl (by go_simp) ⟨rfl, _, rfl, rfl, Below.refl _ _⟩
                  | 5, _ =>
                    obtain rfl : _ = o := Option.some.inj ho
                    have h70 : a.tmps.getD 70 undef = .slice (some ⟨cb, coff, none⟩) lp kp := dep_at hdep 3 70 (by kernel_rfl)
                    have h71 : a.tmps.getD 71 undef = .int .i64 j := dep_at hdep 4 71 (by kernel_rfl)
                    exact wpList_value (v := .pointer (some ⟨cb, coff + j * 6, none⟩)) (w' := w1) rfl (by go_simp) ⟨rfl, _, rfl, rfl, Below.refl _ _⟩
                  | 6, _ =>
                    obtain rfl : _ = o := Option.some.inj ho
                    have h72 : a.tmps.getD 72 undef = .pointer (some ⟨cb, coff + j * 6, none⟩) := dep_at hdep 5 72 (by kernel_rfl)
                    exact wpList_value (v := .pointer (some ⟨cb, coff + j * 6, none⟩)) (w' := w1) rfl (by go_simp) ⟨rfl, _, rfl, rfl, Below.refl _ _⟩
                  | 7, _ =>
                    obtain rfl : _ = o := Option.some.inj ho
                    have h73 : a.tmps.getD 73 undef = .pointer (some ⟨cb, coff + j * 6, none⟩) := dep_at hdep 6 73 (by kernel_rfl)
                    have hlow := HLOW.out w1 HX.out
                    obtain ⟨e0, _⟩ := HXC.out w1 (hlow.mono hbr)
                    have el := cell_lt e0
                    exact wpList_value (v := .slice (some ⟨vb, voff, none⟩) lvc cvc) (w' := w1) rfl (by go_simp) ⟨rfl, _, rfl, rfl, Below.refl _ _⟩
                  | 8, _ =>
                    obtain rfl : _ = o := Option.some.inj ho
                    have h12 : a.tmps.getD 12 undef = .int .i64 j2 := hrest.at 12 (by kernel_rfl)
                    exact wpList_value (v := .int .i64 j2) (w' := w1) rfl (by go_simp) ⟨rfl, _, rfl, rfl, Below.refl _ _⟩
                  | 9, _ =>
                    obtain rfl : _ = o := Option.some.inj ho
                    have h74 : a.tmps.getD 74 undef = .slice (some ⟨vb, voff, none⟩) lvc cvc := dep_at hdep 7 74 (by kernel_rfl)
                    have h75 : a.tmps.getD 75 undef = .int .i64 j2 := dep_at hdep 8 75 (by kernel_rfl)
                    exact wpList_value (v := .pointer (some ⟨vb, voff + j2, none⟩)) (w' := w1) rfl (by go_simp) ⟨rfl, _, rfl, rfl, Below.refl _ _⟩
                  | 10, _ =>
                    obtain rfl : _ = o := Option.some.inj ho
                    have h76 : a.tmps.getD 76 undef = .pointer (some ⟨vb, voff + j2, none⟩) := dep_at hdep 9 76 (by kernel_rfl)
                    have hlow := HLOW.out w1 HX.out
                    have hxc := (hlow.cell (p := ⟨vb, voff + j2, none⟩) hvbr).trans HVC.out
                    have hxl := cell_lt hxc
                    exact wpList_value (v := .int .i64 x) (w' := w1) rfl (by go_simp) ⟨rfl, _, rfl, rfl, Below.refl _ _⟩
                  | 11, _ =>
                    obtain rfl : _ = o := Option.some.inj ho
                    have h6 : a.tmps.getD 6 undef = .int .i64 k := hrest.at 6 (by kernel_rfl)
                    exact wpList_value (v := .int .i64 k) (w' := w1) rfl (by go_simp) ⟨rfl, _, rfl, rfl, Below.refl _ _⟩
                  | 12, _ =>
                    obtain rfl : _ = o := Option.some.inj ho
                    have h77 : a.tmps.getD 77 undef = .int .i64 x := dep_at hdep 10 77 (by kernel_rfl)
                    have h78 : a.tmps.getD 78 undef = .int .i64 k := dep_at hdep 11 78 (by kernel_rfl)
                    exact wpList_value (v := .int .i64 (wrap64 (x + k))) (w' := w1) rfl (by go_simp; exact wrap64_is _) ⟨rfl, _, rfl, rfl, Below.refl _ _⟩
                  | 13, _ =>
                    obtain rfl : _ = o := Option.some.inj ho
                    have h79 : a.tmps.getD 79 undef = .int .i64 (wrap64 (x + k)) := dep_at hdep 12 79 (by kernel_rfl)
                    exact wpList_bs1 (v := .slice (some ⟨w1.heap.size, 0, none⟩) 1 1) (w' := w1.alloc (.cells #[.int .i64 (wrap64 (x + k))] 3)) rfl rfl h79 (bs_int _ _) ⟨rfl, _, rfl, ⟨_, rfl, BoxL.new rfl _ _⟩, Below.one _ _⟩
                  | 14, _ =>
                    obtain rfl : _ = o := Option.some.inj ho
                    have h68 : a.tmps.getD 68 undef = .slice ob j2 cb2 := dep_at hdep 1 68 (by kernel_rfl)
                    obtain ⟨b9, h80, hb9⟩ : ∃ b, a.tmps.getD 80 undef = .slice (some ⟨b, 0, none⟩) 1 1 ∧ BoxL w1 b 3 [.int .i64 (wrap64 (x + k))] := dep_at hdep 13 80 (by kernel_rfl)
                    have hrow : w1.ownsRow wo.heap.size 3 1 (.slice ob j2 cb2) j2 (lj.map (Value.int .i64)) := ownsRow_keep HIJ.out.vrow (Below.next HD5.out (hpre rfl))
                    obtain ⟨i0, hi0, hz0, hz1, hz2⟩ := info_parts info_int
                    refine wpList_append_lies w1 rfl (.tmp 68) (.tmp 80) 32 rfl wo.heap.size 3 i0 (.int .i64 0) 1 8 Tryz.underlying32 hi0 hz0 hz1 hz2 rfl (by decide) (.slice ob j2 cb2) j2 (lj.map (Value.int .i64)) h68 hrow ⟨b9, 0, none⟩ 1 1 [.int .i64 (wrap64 (x + k))] h80 rfl (box_cells hb9) (by intro u hu; simp only [List.mem_cons, List.not_mem_nil, or_false] at hu; subst hu; rfl) (by decide) (by unfold maxLen; omega) (by omega) (by have := HX.out.size; have := HBI.out.size; omega) w1.heap.size rfl ?_
                    intro g cap w7 hown7 hgr7 hlie7 hlt7
                    exact ⟨rfl, _, rfl, ⟨g, cap, rfl, hown7, hlie7.imp id (fun e => by have := HX.out.size; omega)⟩, Turned.grown hgr7 (fun _ h => h)⟩
                  | i + 15, hi => exact absurd hi (by omega)
                case hend =>
                  intro a w1 hdf hsz hex hval hrest
                  obtain ⟨g, cap, h81, hown, hlie⟩ : ∃ (g cap : Nat), a.tmps.getD 81 undef = .slice (some ⟨g, 0, none⟩) (j2 + 1) cap ∧ w1.ownsRow wo.heap.size 3 1 (.slice (some ⟨g, 0, none⟩) (j2 + 1) cap) (j2 + 1) (lj.map (Value.int .i64) ++ ([.int .i64 (wrap64 (x + k))] : List Value)) ∧ ((Value.slice ob j2 cb2).ownBlock = some g ∨ wr.heap.size ≤ g) := hval 14 _ 81 (by omega) rfl rfl rfl
                  obtain ⟨f, ha, hf⟩ := act_spell [false, false, false, false, false, false, false, false, false, false, false, false, false, false, false, false, false, false, false, false, false, false, false, false, false, false, false, false, false, false, false, false, false, false, false, false, false, false, false, false, false, false, false, false, false, false, false, false, false, false, false, false, false, false, false, false, false, false, false, false, false, false, false, false, false, false, false, true, true, true, true, true, true, true, true, true, true, true, true, true, true, true] (by kernel_rfl) hdf hsz hrest
                  rw [← hf] at h81
                  subst ha
                  have HX := Lib.hid (show Turned (fun b => (Value.slice ob j2 cb2).ownBlock = some b) wr w1 from (Turned.of_below HD5.out).next hex)
                  clear hval hrest hf hex hdf hsz
                  have hbx := HX.out.box HIJ.out.box HIJ.out.own
                  have g0 := hbx.cell 0 rfl
                  have gz := hbx.free 0
                  have gl := hbx.lt
                  have HN5 := Lib.hid (HIJ.out.next HX.out hown hlie (wrap_I64 _))
                  clear hbx hown
                  simp only [spell, h81, List.drop_succ_cons, List.drop_zero]
                  go_wp2_with fail
                  go_roundg (lvc - (j2 + 1))
                  case measure => omega
                  case rel => exact ⟨j2 + 1, .slice (some ⟨g, 0, none⟩) (j2 + 1) cap, rfl, by omega, by go_num, by rw [HVT.out]; exact HN5⟩
              · obtain rfl : lvc = j2 := by omega
                have hvt : c.v.take lvc = c.v := List.take_of_length_le (by rw [HCV.out.lens.1]; exact Nat.le_refl _)
                rw [hvt] at HIJ
                clear hvt
                obtain ⟨obv, cbv, rfl⟩ := HIJ.out.form
                have HCF := Lib.hid (show CodF wr (fun b => wo.heap.size ≤ b) (c.shift (rk k)) [.slice obv lvc cbv, .bool c.rest, .int .i64 o8, .int .i64 n8, .slice ov8 lv8 cv8, .slice ot8 lt8 ct8] from HIJ.out.done)
                have HB11 := Lib.hid (show Below wr.heap.size wr (wr.alloc (.cells #[.slice obv lvc cbv, .bool c.rest, .int .i64 o8, .int .i64 n8, .slice ov8 lv8 cv8, .slice ot8 lt8 ct8] 50)) from Below.one _ _)
                have HSW := Lib.hid ((HSJ.out.keep HBI.out).keep HB11.out)
                obtain ⟨oc2, cc2, rfl⟩ := HSW.out.form
                obtain ⟨xs, hr, hxs⟩ := HSW.out.crow
                have HR5 := Lib.hid hr
                have HXS5 := Lib.hid hxs
                have HSWB := Lib.hid (HSJ.out.keep HBI.out).box
                have HC11 := Lib.hid (HCF.out.keep (K' := fun b => W5.heap.size ≤ b) HB11.out.size (fun b _ h => Nat.le_trans HB5r.out.size h) (fun b _ _ hlt => HB11.out.block b hlt))
                have HCE := Lib.hid (box_cells (BoxL.new (W := wr) rfl 50 [.slice obv lvc cbv, .bool c.rest, .int .i64 o8, .int .i64 n8, .slice ov8 lv8 cv8, .slice ot8 lt8 ct8]))
                have HON := Lib.hid (show ∀ u ∈ ([.slice obv lvc cbv, .bool c.rest, .int .i64 o8, .int .i64 n8, .slice ov8 lv8 cv8, .slice ot8 lt8 ct8] : List Value), u.oneCell' = true by intro u hu; simp only [List.mem_cons, List.not_mem_nil, or_false] at hu; rcases hu with rfl | rfl | rfl | rfl | rfl | rfl <;> rfl)
                clear hr hxs
                go_upto_region 15 with fail
                clear m1 ml e0 e1 e2 e3 e4 e5 el
                have x0 := HIJ.out.box.cell 0 rfl
                have x1 := HIJ.out.box.cell 1 rfl
                have x2 := HIJ.out.box.cell 2 rfl
                have x3 := HIJ.out.box.cell 3 rfl
                have x4 := HIJ.out.box.cell 4 rfl
                have x5 := HIJ.out.box.cell 5 rfl
                have xl := HIJ.out.box.lt
                have b1 := HSWB.out.cell 1 rfl
                have bl := HSWB.out.lt
                obtain ⟨i0, hi0, hz0, hz1, hz2⟩ := info_parts info_code
                have hwz : W5.heap.size ≤ wr.heap.size := Nat.le_trans HB5r.out.size HBI.out.size
                have hlp50 : lp ≤ 50 := by have := (Mdl.few_facts HFW.out).1; have := HLP.out; omega
                go_wp2_with (at_builtin; refine wpList_append_own _ rfl (.tmp 84) (.tmp 86) 38 rfl W5.heap.size 50 i0 (.agg #[.slice none 0 0, .bool false, .int .i64 0, .int .i64 0, .slice none 0 0, .slice none 0 0]) 6 96 Tryz.underlying38 hi0 hz0 hz1 hz2 rfl (by decide) (.slice oc2 j cc2) j xs rfl HR5.out ⟨wr.heap.size, 0, none⟩ 1 1 [.slice obv lvc cbv, .bool c.rest, .int .i64 o8, .int .i64 n8, .slice ov8 lv8 cv8, .slice ot8 lt8 ct8] rfl rfl HCE.out HON.out (by unfold maxLen; omega) (by omega) (by simp; omega) ?_)
                intro v' w2 hown hgrow _
                obtain ⟨g, cap, rfl⟩ : ∃ g cap, v' = .slice (some ⟨g, 0, none⟩) (j + 1) cap := by
                  rcases hown.2 with ⟨_, h⟩ | ⟨g, cap, cur, h, _⟩
                  · omega
                  · exact ⟨g, cap, h⟩
                have hT2 : Turned (fun b => (Value.slice oc2 j cc2).ownBlock = some b) (wr.alloc (.cells #[.slice obv lvc cbv, .bool c.rest, .int .i64 o8, .int .i64 n8, .slice ov8 lv8 cv8, .slice ot8 lt8 ct8] 50)) w2 := Turned.grown hgrow (fun b h => h)
                have HSN := Lib.hid (HSW.out.next hT2 HR5.out HXS5.out hown rfl HC11.out)
                have hx2 := hT2.box HSW.out.box (fun e => by
                  obtain ⟨cs, f, hq⟩ := own_row HR5.out nb e
                  rw [show (wr.alloc (.cells #[.slice obv lvc cbv, .bool c.rest, .int .i64 o8, .int .i64 n8, .slice ov8 lv8 cv8, .slice ot8 lt8 ct8] 50)).heap[nb]? = _ from HSW.out.box] at hq
                  simp at hq)
                have q1' := hx2.cell 1 rfl
                have q2' := hx2.free 1
                have q3' := hx2.lt
                clear hx2 hown hgrow hT2 b1 bl x0 x1 x2 x3 x4 x5 xl
                go_wp2_with fail
                go_roundg (lp - (j + 1))
                case measure => omega
                case rel => exact ⟨j + 1, .slice (some ⟨g, 0, none⟩) (j + 1) cap, rfl, by omega, by go_num, by rw [HCT.out]; exact HSN⟩
        · obtain rfl : lp = j := by omega
          have hvt : m.codes.take lp = m.codes := List.take_of_length_le (by rw [HLP.out]; exact Nat.le_refl _)
          rw [hvt] at HSJ
          clear hvt
          obtain ⟨oc2, cc2, rfl⟩ := HSJ.out.form
          have hwr : Below B w wo := (HB5.out.trans (HB5r.out.mono HB5.out.size)).mono hB
          have HMR := Lib.hid (show MdlR wo wo.heap.size (m.shift (rk k)) (.agg #[.slice oc lc kc, .slice oc2 lp cc2, .int .i64 o9, .int .i64 n9, .slice ov9 lv9 cv9, .slice ot9 lt9 ct9]) from by
            obtain ⟨xs, hr, hxs⟩ := HSJ.out.crow
            exact ⟨_, _, _, _, _, _, rfl, (HCN.out.kept hwr).wider hbr, slC_of_row (by rw [show (Mdl.shift (rk k) m).codes.length = (m.codes.map (Cod.shift (rk k))).length from rfl, ← HSJ.out.clen]; exact hr) (hxs.mono fun y _ cs hy => hy wo fun _ _ _ _ => rfl), HSJ.out.body.reads⟩)
          have HK2 := Lib.hid (fmake_to (m.shift (rk k)) _ wo.heap.size wo HMR.out (Nat.le_refl _) 250 (by omega) (by rw [Mdl.shift_fewB]; exact HFW.out))
          have HN := HSJ.out.box
          have t0 := HN.cell 0 rfl
          have t1 := HN.cell 1 rfl
          have t2 := HN.cell 2 rfl
          have t3 := HN.cell 3 rfl
          have t4 := HN.cell 4 rfl
          have t5 := HN.cell 5 rfl
          have tl := HN.lt
          clear HN hwr
          go_wp2_with fail
          with_reducible refine HK2.out.mono ?_
          rintro e w7 ⟨cv2, pv2, rfl, hu2, hb7⟩
          have HU7 := Lib.hid hu2
          obtain ⟨cv3, pv3, he2, hcv2, hpv2⟩ := hu2
          simp only [Value.agg.injEq, Array.mk.injEq, List.cons.injEq, and_true] at he2
          obtain ⟨rfl, rfl⟩ := he2
          obtain ⟨ob0, lb0, kb0, rfl, hxb0⟩ := hcv2
          clear hxb0
          obtain ⟨ob1, lb1, kb1, rfl⟩ := hpv2.form
          obtain ⟨W8, hW8⟩ : ∃ W8, w7.alloc (.cells #[.slice ob0 lb0 kb0, .slice ob1 lb1 kb1] 25) = W8 := ⟨_, rfl⟩
          have HB78 := Lib.hid (show Below w7.heap.size w7 W8 from by rw [← hW8]; exact Below.one w7 _)
          have HX8 := Lib.hid (show BoxL W8 w7.heap.size 25 [.slice ob0 lb0 kb0, .slice ob1 lb1 kb1] from by rw [← hW8]; exact BoxL.new rfl _ _)
          have HB58 := Lib.hid (show Below W5.heap.size W5 W8 from (HB5r.out.trans (hb7.mono HB5r.out.size)).trans (HB78.out.mono (Nat.le_trans HB5r.out.size hb7.size)))
          have HA8 := Lib.hid (HU5.out.keep HB58.out)
          have HB8 := Lib.hid (HB5.out.trans (HB58.out.mono HB5.out.size))
          have HW8 := Lib.hid hW8
          clear hb7 HK2 t0 t1 t2 t3 t4 t5 tl m1 ml hW8 hpv2
          obtain ⟨F, hF⟩ : ∃ F, (m.shift (rk k)).makeErr Mk.lkL = F := ⟨_, rfl⟩
          rw [hF]
          have HF := Lib.hid hF
          clear hF
          go_upto_region 17 with fail
          rw [HW8.out]
          cases hok : (m.okB && (m.unit Mk.lkL).okB) with
          | false =>
            obtain rfl : (5 : Int) = E := by rw [← HE.out, Mdl.makeErr, hok]; rfl
            clear hok
            go_wp2_with fail
            go_ret
            exact ⟨rfl, HB8.out⟩
          | true =>
            obtain rfl : (0 : Int) = E := by rw [← HE.out, Mdl.makeErr, hok]; rfl
            cases hok2 : ((m.shift (rk k)).okB && ((m.shift (rk k)).unit Mk.lkL).okB) with
            | false =>
              obtain rfl : (5 : Int) = F := by rw [← HF.out, Mdl.makeErr, hok2]; rfl
              clear hok hok2
              go_wp2_with fail
              go_ret
              exact ⟨rfl, HB8.out⟩
            | true =>
              obtain rfl : (0 : Int) = F := by rw [← HF.out, Mdl.makeErr, hok2]; rfl
              have hmu : m.makeU Mk.lkL = m.unit Mk.lkL := by rw [Mdl.makeU, hok]; rfl
              have hmu2 : (m.shift (rk k)).makeU Mk.lkL = (m.shift (rk k)).unit Mk.lkL := by rw [Mdl.makeU, hok2]; rfl
              rw [Bool.and_eq_true] at hok
              have hus : (m.shift (rk k)).unit Mk.lkL = m.unit Mk.lkL := unit_shift (rk k) (rk_inj k) hok.1
              have ha : UntR W8 W8.heap.size (m.unit Mk.lkL) (.agg #[.slice o0 l0 c0, .slice o1 np c1]) := by
                rw [← hmu]
                exact (HU4.out.kept (HB45.out.trans (HB58.out.mono HB45.out.size))).wider (Nat.le_trans HB45.out.size HB58.out.size)
              have hb : UntR W8 W8.heap.size (m.unit Mk.lkL) (.agg #[.slice ob0 lb0 kb0, .slice ob1 lb1 kb1]) := by
                rw [← hus, ← hmu2]
                exact (HU7.out.kept HB78.out).wider HB78.out.size
              have HSS := Lib.hid (same_self (m.unit Mk.lkL) _ _ W8.heap.size W8 ha hb (Nat.le_refl _) (fun p hp => by
                obtain ⟨i, hi⟩ := List.getElem?_of_mem hp
                obtain ⟨c, _, _, _, h1, _, _, _, _, h2⟩ := (unit_shape hok.1 hok.2).2 i p hi
                exact ⟨h1, by omega⟩))
              have r0 := HA8.out.cell 0 rfl
              have r1 := HA8.out.cell 1 rfl
              have rl := HA8.out.lt
              have s0 := HX8.out.cell 0 rfl
              have s1 := HX8.out.cell 1 rfl
              have sl := HX8.out.lt
              clear hok hok2 hmu hmu2 hus ha hb
              go_wp2_with fail
              with_reducible refine HSS.out.mono ?_
              rintro e w9 ⟨rfl, hb9⟩
              have HB9 := Lib.hid (HB8.out.trans (hb9.mono HB8.out.size))
              clear hb9 HSS r0 r1 rl s0 s1 sl
              go_wp2_with fail
              go_ret
              exact ⟨rfl, HB9.out⟩
end Go.Proofs.YtigkhmppnnljiaaGreatDoor

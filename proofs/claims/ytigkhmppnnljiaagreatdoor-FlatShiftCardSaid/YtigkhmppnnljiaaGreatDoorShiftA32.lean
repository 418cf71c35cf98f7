/-
  What the proofs lean on: MkEnd, MkI.
-/
import Derived.Test.YtigkhmppnnljiaaGreatDoorShiftA30
import Derived.Test.YtigkhmppnnljiaaGreatDoorShiftA31
namespace Go.Proofs.YtigkhmppnnljiaaGreatDoor
open Go Go.RowKit Mk

set_option maxHeartbeats 8000000 in
set_option maxRecDepth 100000 in
theorem end_5 (n : Int) (v : List Int) (t : List Trm) (ht : AllC t) (hct : 1 ≤ t.length) (c0 c1 c2 c3 : Value) (B base mb vb : Nat) (cv : Value) (X : Nat → Prop) (s : MSt) (nc nk : Int) (fr : Bool) (sc : Int → Bool) (W : World)
    (hv : TrmR W B (.mk 5 n v t) [c0, c1, c2, c3]) (hm : MkIn W B base mb vb cv X s) (hw : ∀ x ∈ t, Trm.wf nc nk fr x sc = true) (hroom : Room s (2 + 6 * Trm.allL t)) :
    Calls Tryz.prog 111 #[.pointer (some ⟨mb, 0, none⟩), .agg #[c0, c1, c2, c3]] W fun r w' => r = .returned (.tuple #[]) ∧ ∃ cv', MkGo B base mb vb cv cv' X (Mk.ended 5 n (Mk.allT Mk.lkL t s).1 (Mk.allT Mk.lkL t s).2) W w' := by
  obtain ⟨W1, hW1⟩ : ∃ W1, W.alloc (.cells #[c0, c1, c2, c3] 41) = W1 := ⟨_, rfl⟩
  have hsz := hm.size
  obtain ⟨ov, lv, cvv, ot, lt, ct, rfl, rfl, rfl, rfl, hn, HBX, HM, HT, HV, HB1, hlt, hlv⟩ := term_box W B base mb vb cv X s _ n v t _ _ _ _ hv hm W1 hW1
  have HW := Lib.hid hW1
  have HN := Lib.hid hn
  clear hlt hlv hn
  have HA := Lib.hid (ht (.slice ot lt ct) B base mb vb cv X s nc nk fr sc W1 HT.out HM.out hw (hroom.mono (by omega)))
  have hra := Mk.Room.allT (k := 2) Mk.lkL_ok t s hroom
  have HPL0 := Lib.hid (allT_length Mk.lkL t s)
  obtain ⟨p, hp⟩ : ∃ p, Mk.allT Mk.lkL t s = p := ⟨_, rfl⟩
  rw [hp] at HA hra HPL0
  rw [hp]
  have HRA := Lib.hid hra
  have e0 := HBX.out.cell 0 rfl
  have e1 := HBX.out.cell 1 rfl
  have e3 := HBX.out.cell 3 rfl
  have el := HBX.out.lt
  clear hv hm hW1 hw hroom hra hp ht
  go_enter Tryz.func111, Tryz.ntmps111
  go_upto_region 1 with fail
  rw [HW.out]
  go_wp2_with fail
  refine HA.out.mono ?_
  rintro r w2 ⟨rv, rfl, cv2, hg2, hi2⟩
  have HG2 := Lib.hid hg2
  have HI2 := Lib.hid hi2
  have HBX2 := Lib.hid (HG2.out.box HM.out HBX.out (by decide) (by decide))
  obtain ⟨ol, ll, cl, rfl⟩ := hi2.1.form
  obtain ⟨hll, hlc, hlm⟩ := hi2.1.lens
  have HLL := Lib.hid hll
  clear hll
  have hcode : p.2.code.length ≤ 1000000 := by have := HRA.out.1.1; omega
  clear hg2 hi2 e0 e1 e3 el HA
  have e0 := HBX2.out.cell 0 rfl
  have e1 := HBX2.out.cell 1 rfl
  have el := HBX2.out.lt
  have hll := HLL.out
  have hpl := HPL0.out
  obtain ⟨r0, rl, hpe⟩ : ∃ r0 rl, p.1 = r0 :: rl := by
    cases h : p.1 with
    | nil => rw [h] at hpl; simp at hpl; omega
    | cons a b => exact ⟨a, b, rfl⟩
  obtain ⟨gb, goff, hgo, hgb, hgc, hri⟩ := SlC.int (j := 0) HI2.out.1 (x := r0) (by rw [hpe]; rfl)
  subst hgo
  have hgl := cell_lt hgc
  rw [Nat.add_zero] at hgc
  rw [hpe] at HI2 hll
  simp only [List.length_cons] at hll
  subst hll
  have HRI := Lib.hid hri
  have HPE := Lib.hid hpe
  clear hpl hpe
  go_upto_region 4 with fail
  by_cases hcl1 : cl = 1
  · subst hcl1
    have HDR := Lib.hid (IntsM.rest1 HI2.out)
    have HD := Lib.hid ((Below.refl w2.heap.size w2).drew)
    have HDL := Lib.hid (fun (W3 : World) (hb : Below w2.heap.size w2 W3) => lay_void 19 0 r0 0 rl (some ⟨gb, goff, none⟩) 0 0 W3 (HG2.out.inn.keep hb) hcode (by constructor <;> omega) (by constructor <;> omega) HRI.out (by constructor <;> omega) (HDR.out.below hb))
    refine wp_region_quiet_class (Below w2.heap.size w2) 7 (by kernel_rfl) (by kernel_rfl) HD.out ?_
    intro T0 _ WW HWW HWW2
    have z0 : ∀ t, (WW t).cell? _ = _ := fun t => ((HWW t).cell (p := ⟨gb, goff, none⟩) hgl).trans hgc
    have HWH := Lib.hid HWW
    clear HWW HWW2
    simp only [List.take_succ_cons, List.take_zero, List.drop_succ_cons, List.drop_zero]
    repeat (go_big_quiet_step (fail))
    refine wpQuiet_nil ?_
    intro t'
    obtain ⟨W3, hW3⟩ : ∃ W3, WW t' = W3 := ⟨_, rfl⟩
    have HB3 := Lib.hid (show Below w2.heap.size w2 W3 from hW3 ▸ HWH.out t')
    rw [hW3]
    clear z0 hW3 HWH e0 e1 el
    have HL := Lib.hid (HDL.out W3 HB3.out)
    go_wp2_with fail
    with_reducible refine HL.out.mono ?_
    rintro r w3 ⟨fv, rfl, cv3, hg3⟩
    have HG9 := Lib.hid (((HG2.out.after HB3.out).next hg3).before HB1.out hsz)
    have hfin : Mk.ended 5 n p.1 p.2 = p.2.put ⟨19, 0, r0, 0, rl⟩ := by rw [HPE.out]; rfl
    have HFIN := Lib.hid hfin
    clear hfin hg3 HL hgc hgl
    go_wp2_with fail
    first | go_end0 | (refine bodyPost_ret (results_none rfl _ _ _) rfl ?_)
    exact ⟨rfl, _, by rw [HFIN.out]; exact HG9.out⟩
  · have hcl2 : 1 < cl := by omega
    have HDR := Lib.hid (IntsM.rest2 HI2.out hcl1)
    have HD := Lib.hid ((Below.refl w2.heap.size w2).drew)
    have HDL := Lib.hid (fun (W3 : World) (hb : Below w2.heap.size w2 W3) => lay_void 19 0 r0 0 rl (some ⟨gb, goff + 1, none⟩) rl.length (cl - 1) W3 (HG2.out.inn.keep hb) hcode (by constructor <;> omega) (by constructor <;> omega) HRI.out (by constructor <;> omega) (HDR.out.below hb))
    refine wp_region_quiet_class (Below w2.heap.size w2) 7 (by kernel_rfl) (by kernel_rfl) HD.out ?_
    intro T0 _ WW HWW HWW2
    have z0 : ∀ t, (WW t).cell? _ = _ := fun t => ((HWW t).cell (p := ⟨gb, goff, none⟩) hgl).trans hgc
    have HWH := Lib.hid HWW
    clear HWW HWW2
    simp only [List.take_succ_cons, List.take_zero, List.drop_succ_cons, List.drop_zero]
    repeat (go_big_quiet_step (fail))
    refine wpQuiet_nil ?_
    intro t'
    obtain ⟨W3, hW3⟩ : ∃ W3, WW t' = W3 := ⟨_, rfl⟩
    have HB3 := Lib.hid (show Below w2.heap.size w2 W3 from hW3 ▸ HWH.out t')
    rw [hW3]
    clear z0 hW3 HWH e0 e1 el
    have HL := Lib.hid (HDL.out W3 HB3.out)
    go_wp2_with fail
    with_reducible refine HL.out.mono ?_
    rintro r w3 ⟨fv, rfl, cv3, hg3⟩
    have HG9 := Lib.hid (((HG2.out.after HB3.out).next hg3).before HB1.out hsz)
    have hfin : Mk.ended 5 n p.1 p.2 = p.2.put ⟨19, 0, r0, 0, rl⟩ := by rw [HPE.out]; rfl
    have HFIN := Lib.hid hfin
    clear hfin hg3 HL hgc hgl
    go_wp2_with fail
    first | go_end0 | (refine bodyPost_ret (results_none rfl _ _ _) rfl ?_)
    exact ⟨rfl, _, by rw [HFIN.out]; exact HG9.out⟩
set_option maxHeartbeats 8000000 in
set_option maxRecDepth 100000 in
theorem end_22 (n : Int) (v : List Int) (t : List Trm) (ht : AllC t) (hct : 1 ≤ t.length) (c0 c1 c2 c3 : Value) (B base mb vb : Nat) (cv : Value) (X : Nat → Prop) (s : MSt) (nc nk : Int) (fr : Bool) (sc : Int → Bool) (W : World)
    (hv : TrmR W B (.mk 22 n v t) [c0, c1, c2, c3]) (hm : MkIn W B base mb vb cv X s) (hw : ∀ x ∈ t, Trm.wf nc nk fr x sc = true) (hroom : Room s (2 + 6 * Trm.allL t)) :
    Calls Tryz.prog 111 #[.pointer (some ⟨mb, 0, none⟩), .agg #[c0, c1, c2, c3]] W fun r w' => r = .returned (.tuple #[]) ∧ ∃ cv', MkGo B base mb vb cv cv' X (Mk.ended 22 n (Mk.allT Mk.lkL t s).1 (Mk.allT Mk.lkL t s).2) W w' := by
  obtain ⟨W1, hW1⟩ : ∃ W1, W.alloc (.cells #[c0, c1, c2, c3] 41) = W1 := ⟨_, rfl⟩
  have hsz := hm.size
  obtain ⟨ov, lv, cvv, ot, lt, ct, rfl, rfl, rfl, rfl, hn, HBX, HM, HT, HV, HB1, hlt, hlv⟩ := term_box W B base mb vb cv X s _ n v t _ _ _ _ hv hm W1 hW1
  have HW := Lib.hid hW1
  have HN := Lib.hid hn
  clear hlt hlv hn
  have HA := Lib.hid (ht (.slice ot lt ct) B base mb vb cv X s nc nk fr sc W1 HT.out HM.out hw (hroom.mono (by omega)))
  have hra := Mk.Room.allT (k := 2) Mk.lkL_ok t s hroom
  have HPL0 := Lib.hid (allT_length Mk.lkL t s)
  obtain ⟨p, hp⟩ : ∃ p, Mk.allT Mk.lkL t s = p := ⟨_, rfl⟩
  rw [hp] at HA hra HPL0
  rw [hp]
  have HRA := Lib.hid hra
  have e0 := HBX.out.cell 0 rfl
  have e1 := HBX.out.cell 1 rfl
  have e3 := HBX.out.cell 3 rfl
  have el := HBX.out.lt
  clear hv hm hW1 hw hroom hra hp ht
  go_enter Tryz.func111, Tryz.ntmps111
  go_upto_region 1 with fail
  rw [HW.out]
  go_wp2_with fail
  refine HA.out.mono ?_
  rintro r w2 ⟨rv, rfl, cv2, hg2, hi2⟩
  have HG2 := Lib.hid hg2
  have HI2 := Lib.hid hi2
  have HBX2 := Lib.hid (HG2.out.box HM.out HBX.out (by decide) (by decide))
  obtain ⟨ol, ll, cl, rfl⟩ := hi2.1.form
  obtain ⟨hll, hlc, hlm⟩ := hi2.1.lens
  have HLL := Lib.hid hll
  clear hll
  have hcode : p.2.code.length ≤ 1000000 := by have := HRA.out.1.1; omega
  clear hg2 hi2 e0 e1 e3 el HA
  have e0 := HBX2.out.cell 0 rfl
  have e1 := HBX2.out.cell 1 rfl
  have el := HBX2.out.lt
  have hll := HLL.out
  have hpl := HPL0.out
  obtain ⟨r0, rl, hpe⟩ : ∃ r0 rl, p.1 = r0 :: rl := by
    cases h : p.1 with
    | nil => rw [h] at hpl; simp at hpl; omega
    | cons a b => exact ⟨a, b, rfl⟩
  obtain ⟨gb, goff, hgo, hgb, hgc, hri⟩ := SlC.int (j := 0) HI2.out.1 (x := r0) (by rw [hpe]; rfl)
  subst hgo
  have hgl := cell_lt hgc
  rw [Nat.add_zero] at hgc
  rw [hpe] at HI2 hll
  simp only [List.length_cons] at hll
  subst hll
  have HRI := Lib.hid hri
  have HPE := Lib.hid hpe
  clear hpl hpe
  go_upto_region 7 with fail
  by_cases hcl1 : cl = 1
  · subst hcl1
    have HDR := Lib.hid (IntsM.rest1 HI2.out)
    have HD := Lib.hid ((Below.refl w2.heap.size w2).drew)
    have HDL := Lib.hid (fun (W3 : World) (hb : Below w2.heap.size w2 W3) => lay_void 20 0 n r0 rl (some ⟨gb, goff, none⟩) 0 0 W3 (HG2.out.inn.keep hb) hcode (by constructor <;> omega) (by constructor <;> omega) HN.out HRI.out (HDR.out.below hb))
    refine wp_region_quiet_class (Below w2.heap.size w2) 9 (by kernel_rfl) (by kernel_rfl) HD.out ?_
    intro T0 _ WW HWW HWW2
    have z0 : ∀ t, (WW t).cell? _ = _ := fun t => ((HWW t).cell (p := ⟨W.heap.size, 1, none⟩) el).trans e1
    have z1 : ∀ t, (WW t).cell? _ = _ := fun t => ((HWW t).cell (p := ⟨gb, goff, none⟩) hgl).trans hgc
    have HWH := Lib.hid HWW
    clear HWW HWW2
    simp only [List.take_succ_cons, List.take_zero, List.drop_succ_cons, List.drop_zero]
    repeat (go_big_quiet_step (fail))
    refine wpQuiet_nil ?_
    intro t'
    obtain ⟨W3, hW3⟩ : ∃ W3, WW t' = W3 := ⟨_, rfl⟩
    have HB3 := Lib.hid (show Below w2.heap.size w2 W3 from hW3 ▸ HWH.out t')
    rw [hW3]
    clear z0 z1 hW3 HWH e0 e1 el
    have HL := Lib.hid (HDL.out W3 HB3.out)
    go_wp2_with fail
    with_reducible refine HL.out.mono ?_
    rintro r w3 ⟨fv, rfl, cv3, hg3⟩
    have HG9 := Lib.hid (((HG2.out.after HB3.out).next hg3).before HB1.out hsz)
    have hfin : Mk.ended 22 n p.1 p.2 = p.2.put ⟨20, 0, n, r0, rl⟩ := by rw [HPE.out]; rfl
    have HFIN := Lib.hid hfin
    clear hfin hg3 HL hgc hgl
    go_wp2_with fail
    first | go_end0 | (refine bodyPost_ret (results_none rfl _ _ _) rfl ?_)
    exact ⟨rfl, _, by rw [HFIN.out]; exact HG9.out⟩
  · have hcl2 : 1 < cl := by omega
    have HDR := Lib.hid (IntsM.rest2 HI2.out hcl1)
    have HD := Lib.hid ((Below.refl w2.heap.size w2).drew)
    have HDL := Lib.hid (fun (W3 : World) (hb : Below w2.heap.size w2 W3) => lay_void 20 0 n r0 rl (some ⟨gb, goff + 1, none⟩) rl.length (cl - 1) W3 (HG2.out.inn.keep hb) hcode (by constructor <;> omega) (by constructor <;> omega) HN.out HRI.out (HDR.out.below hb))
    refine wp_region_quiet_class (Below w2.heap.size w2) 9 (by kernel_rfl) (by kernel_rfl) HD.out ?_
    intro T0 _ WW HWW HWW2
    have z0 : ∀ t, (WW t).cell? _ = _ := fun t => ((HWW t).cell (p := ⟨W.heap.size, 1, none⟩) el).trans e1
    have z1 : ∀ t, (WW t).cell? _ = _ := fun t => ((HWW t).cell (p := ⟨gb, goff, none⟩) hgl).trans hgc
    have HWH := Lib.hid HWW
    clear HWW HWW2
    simp only [List.take_succ_cons, List.take_zero, List.drop_succ_cons, List.drop_zero]
    repeat (go_big_quiet_step (fail))
    refine wpQuiet_nil ?_
    intro t'
    obtain ⟨W3, hW3⟩ : ∃ W3, WW t' = W3 := ⟨_, rfl⟩
    have HB3 := Lib.hid (show Below w2.heap.size w2 W3 from hW3 ▸ HWH.out t')
    rw [hW3]
    clear z0 z1 hW3 HWH e0 e1 el
    have HL := Lib.hid (HDL.out W3 HB3.out)
    go_wp2_with fail
    with_reducible refine HL.out.mono ?_
    rintro r w3 ⟨fv, rfl, cv3, hg3⟩
    have HG9 := Lib.hid (((HG2.out.after HB3.out).next hg3).before HB1.out hsz)
    have hfin : Mk.ended 22 n p.1 p.2 = p.2.put ⟨20, 0, n, r0, rl⟩ := by rw [HPE.out]; rfl
    have HFIN := Lib.hid hfin
    clear hfin hg3 HL hgc hgl
    go_wp2_with fail
    first | go_end0 | (refine bodyPost_ret (results_none rfl _ _ _) rfl ?_)
    exact ⟨rfl, _, by rw [HFIN.out]; exact HG9.out⟩
set_option maxHeartbeats 8000000 in
set_option maxRecDepth 100000 in
theorem end_10 (n : Int) (v : List Int) (t : List Trm) (ht : AllC t) (hn29 : 29 ≤ n) (c0 c1 c2 c3 : Value) (B base mb vb : Nat) (cv : Value) (X : Nat → Prop) (s : MSt) (nc nk : Int) (fr : Bool) (sc : Int → Bool) (W : World)
    (hv : TrmR W B (.mk 10 n v t) [c0, c1, c2, c3]) (hm : MkIn W B base mb vb cv X s) (hw : ∀ x ∈ t, Trm.wf nc nk fr x sc = true) (hroom : Room s (2 + 6 * Trm.allL t)) :
    Calls Tryz.prog 111 #[.pointer (some ⟨mb, 0, none⟩), .agg #[c0, c1, c2, c3]] W fun r w' => r = .returned (.tuple #[]) ∧ ∃ cv', MkGo B base mb vb cv cv' X (Mk.ended 10 n (Mk.allT Mk.lkL t s).1 (Mk.allT Mk.lkL t s).2) W w' := by
  obtain ⟨W1, hW1⟩ : ∃ W1, W.alloc (.cells #[c0, c1, c2, c3] 41) = W1 := ⟨_, rfl⟩
  have hsz := hm.size
  obtain ⟨ov, lv, cvv, ot, lt, ct, rfl, rfl, rfl, rfl, hn, HBX, HM, HT, HV, HB1, hlt, hlv⟩ := term_box W B base mb vb cv X s _ n v t _ _ _ _ hv hm W1 hW1
  have HW := Lib.hid hW1
  have HN := Lib.hid hn
  have HDR := Lib.hid (Below.drew (Below.refl W1.heap.size W1))
  have HA := Lib.hid (ht (.slice ot lt ct) B base mb vb cv X s nc nk fr sc W1.drew (TrmS.kept HT.out (HDR.out.mono (HM.out.size))) (HM.out.keep HDR.out) hw (hroom.mono (by omega)))
  have hra := Mk.Room.allT (k := 2) Mk.lkL_ok t s hroom
  obtain ⟨p, hp⟩ : ∃ p, Mk.allT Mk.lkL t s = p := ⟨_, rfl⟩
  rw [hp] at HA hra
  rw [hp]
  have HRA := Lib.hid hra
  have hcode : p.2.code.length ≤ 1000000 := by have := HRA.out.1.1; omega
  have e0 := HBX.out.cell 0 rfl
  have e1 := HBX.out.cell 1 rfl
  have e3 := HBX.out.cell 3 rfl
  have el := HBX.out.lt
  have hq29 : decide (29 ≤ n) = true := decide_eq_true hn29
  have hfin : Mk.ended 10 n p.1 p.2 = p.2.put ⟨21, 0, n, 0, p.1⟩ := rfl
  rw [hfin]
  clear hv hm hW1 hw hroom hra hp ht hlt hlv hn hn29 hfin
  go_enter Tryz.func111, Tryz.ntmps111
  go_upto_region 2 with fail
  rw [HW.out]
  go_upto_region 9 with fail
  go_region_with (first
    | (go_at_call 109
       with_reducible refine HA.out.mono ?_
       rintro r w2 ⟨rv, rfl, cv2, hg2, hi2⟩
       have HG2 := Lib.hid hg2
       have HI2 := Lib.hid hi2
       have HBX2 := Lib.hid (HG2.out.box (HM.out.keep HDR.out) (HBX.out.keep HDR.out) (by decide) (by decide))
       obtain ⟨ol, ll, cl, rfl⟩ := hi2.1.form
       have HL := Lib.hid (lay_void 21 0 n 0 p.1 ol ll cl w2 HG2.out.inn hcode (by constructor <;> omega) (by constructor <;> omega) HN.out (by constructor <;> omega) HI2.out)
       have f1 := HBX2.out.cell 1 rfl
       have fl := HBX2.out.lt
       clear hg2 hi2)
    | (go_at_call 143
       with_reducible refine HL.out.mono ?_
       rintro r w3 ⟨fv, rfl, cv3, hg3⟩
       have HG3 := Lib.hid hg3
       clear hg3))
  all_goals
    go_wp2_with fail
    first | go_end0 | (refine bodyPost_ret (results_none rfl _ _ _) rfl ?_)
    exact ⟨rfl, _, ((HG2.out.next HG3.out).before HDR.out (by have := HM.out.size; omega)).before HB1.out hsz⟩
end Go.Proofs.YtigkhmppnnljiaaGreatDoor

namespace Go.Proofs.YtigkhmppnnljiaaGreatDoor
open Go Go.RowKit Mk

theorem allT_room {lk : List (Int × Int) → Int → Int} (hl : Mk.LkOk lk) : ∀ (l : List Trm) (s : MSt) (k : Nat), Room s (k + (6 * Trm.allL l - l.length)) → Room (Mk.allT lk l s).2 k
  | [], s, k, h => by rw [Mk.allT]; exact h.mono (by omega)
  | x :: l, s, k, h => by
    have hk := Trm.allL_length l
    have hx := x.all_pos
    simp only [Trm.allL, List.length_cons] at h
    rw [Mk.allT]
    exact allT_room hl l _ k (Room.had hl x (Room.into hl x) (h.mono (k' := k + (6 * Trm.allL l - l.length) + (6 * x.all - 1)) (by omega))).1

set_option maxHeartbeats 8000000 in
set_option maxRecDepth 100000 in
theorem into_seq (e : Bool) (n : Int) (v : List Int) (l : List Trm) (x : Trm) (hl : AllC l) (hx : IntoC e x) (c0 c1 c2 c3 : Value) (B base mb vb : Nat) (cv : Value) (X : Nat → Prop) (s : MSt) (d : Int) (nc nk : Int) (fr : Bool) (sc sc' : Int → Bool) (W : World)
    (hv : TrmR W B (.mk 6 n v (l ++ [x])) [c0, c1, c2, c3]) (hm : MkIn W B base mb vb cv X s) (hwl : ∀ y ∈ l, Trm.wf nc nk fr y sc = true) (hwx : Trm.wf nc nk fr x sc' = true) (hroom : Room s (6 * Trm.allL (l ++ [x]) + 4)) (hd : 0 ≤ d ∧ d ≤ 1900000) :
    Calls Tryz.prog 71 #[.pointer (some ⟨mb, 0, none⟩), .agg #[c0, c1, c2, c3], .int .i64 d, .bool e] W fun r w' => r = .returned (.tuple #[]) ∧ ∃ cv', MkGo B base mb vb cv cv' X (Mk.into Mk.lkL x d e (Mk.allT Mk.lkL l s).2) W w' := by
  obtain ⟨W1, hW1⟩ : ∃ W1, W.alloc (.cells #[c0, c1, c2, c3] 41) = W1 := ⟨_, rfl⟩
  have hsz := hm.size
  have hv1 : TrmR W1 B (.mk 6 n v (l ++ [x])) [c0, c1, c2, c3] := TrmR.kept (by rw [← hW1]; exact (Below.one W _).mono hsz) _ _ hv
  obtain ⟨ov, lv, cvv, ot, lt, ct, rfl, rfl, rfl, rfl, hn, HBX, HM, HT, HV, HB1, hlt, hlv⟩ := term_box W B base mb vb cv X s _ n v _ _ _ _ _ hv hm W1 hW1
  have HW := Lib.hid hW1
  have HLV := Lib.hid hlv
  obtain ⟨L, hL⟩ : ∃ L, l.length = L := ⟨_, rfl⟩
  have HL0 := Lib.hid hL
  obtain rfl : lt = L + 1 := by rw [hlt, ← hL]; simp
  obtain ⟨tb, off, x0, x1, x2, x3, rfl, hpx⟩ := TrmS.part HT.out (i := L) (x := x) (by rw [← hL]; simp)
  obtain ⟨hltc, hltm⟩ := (SlC.lens HT.out).2
  have hTl : TrmS W1 B l (.slice (some ⟨tb, off, none⟩) L ct) := by
    have := SlC.takes (n := L) HT.out (by omega)
    rwa [show (l ++ [x]).take L = l from by rw [← hL, List.take_left]] at this
  have HPX := Lib.hid hpx
  have HTL := Lib.hid hTl
  have HX := Lib.hid hx
  have HWX := Lib.hid hwx
  rw [allL_append, show Trm.allL [x] = x.all by simp [Trm.allL]] at hroom
  have HRO := Lib.hid hroom
  have hxp := x.all_pos
  have hlp := Trm.allL_length l
  have hLi : ((L + 1 : Nat) : Int) - 1 = (L : Int) := by omega
  have e0 := HBX.out.cell 0 rfl
  have e3 := HBX.out.cell 3 rfl
  have el := HBX.out.lt
  have HA := Lib.hid (hl (.slice (some ⟨tb, off, none⟩) L ct) B base mb vb cv X s nc nk fr sc W1 hTl HM.out hwl (hroom.mono (by omega)))
  have hra := Room.allT (k := 6 * x.all + 4) Mk.lkL_ok l s (hroom.mono (by omega))
  have HPL0 := Lib.hid (allT_length Mk.lkL l s)
  obtain ⟨p, hp⟩ : ∃ p, Mk.allT Mk.lkL l s = p := ⟨_, rfl⟩
  rw [hp] at HA hra HPL0
  have HP := Lib.hid hp
  have HRA := Lib.hid hra
  clear hv hv1 hm hW1 hroom hlt hlv hn hx hpx hTl hwx hL hl hwl hra hp
  go_enter Tryz.func71, Tryz.ntmps71
  go_upto_region 1 with fail
  rw [HW.out]
  go_wp2_with fail
  with_reducible refine HA.out.mono ?_
  rintro r w5 ⟨rv, rfl, cv5, hg5, hi5⟩
  have HG5 := Lib.hid hg5
  have HR5 := Lib.hid HRA.out.1
  clear hg5 hi5 e0 e3 el HA
  have HBX5 := Lib.hid (HG5.out.box HM.out HBX.out (by decide) (by decide))
  have HPX5 := Lib.hid (HPX.out.kept HG5.out.low)
  obtain ⟨qa, qb, qc, qd, qe, qf, rfl, rfl, rfl, rfl, _⟩ := TrmR.shape HPX5.out.r
  have HI := Lib.hid (HX.out _ _ _ _ B base mb vb cv5 X _ d nc nk fr sc' w5 HPX5.out.r HG5.out.inn HWX.out (HR5.out.mono (by omega)) hd)
  have e0 := HBX5.out.cell 0 rfl
  have e3 := HBX5.out.cell 3 rfl
  have el := HBX5.out.lt
  have q0 := HPX5.out.e0
  have q1 := HPX5.out.e1
  have q2 := HPX5.out.e2
  have q3 := HPX5.out.e3
  have ql := HPX5.out.size
  go_wp2_with fail
  with_reducible refine HI.out.mono ?_
  rintro r w6 ⟨rfl, cv6, hg6⟩
  have HG9 := Lib.hid ((HG5.out.next hg6).before HB1.out hsz)
  clear hg6 HI e0 e3 el q0 q1 q2 q3 ql
  go_wp2_with fail
  first | go_end0 | (refine bodyPost_ret (results_none rfl _ _ _) rfl ?_)
  exact ⟨rfl, _, by rw [HP.out]; exact HG9.out⟩
set_option maxHeartbeats 8000000 in
set_option maxRecDepth 100000 in
theorem into_fix (e : Bool) (n : Int) (v : List Int) (l : List Trm) (x : Trm) (hlv0 : l.length = v.length) (hl : ∀ y ∈ l ++ [x], AllC y.t) (hx : IntoC e x) (c0 c1 c2 c3 : Value) (B base mb vb : Nat) (cv : Value) (X : Nat → Prop) (s : MSt) (d : Int) (nc nk : Int) (fr : Bool) (sc sc' : Int → Bool) (W : World)
    (hv : TrmR W B (.mk 9 n v (l ++ [x])) [c0, c1, c2, c3]) (hm : MkIn W B base mb vb cv X s) (hwl : ∀ (j : Nat) y, j < v.length → (l ++ [x])[j]? = some y → ∀ z ∈ y.t, Trm.wf nc nk fr z sc = true) (hwx : Trm.wf nc nk fr x sc' = true) (hroom : Room s (6 * Trm.allL (l ++ [x]) + 4)) (hd : 0 ≤ d ∧ d ≤ 1900000) :
    Calls Tryz.prog 71 #[.pointer (some ⟨mb, 0, none⟩), .agg #[c0, c1, c2, c3], .int .i64 d, .bool e] W fun r w' => r = .returned (.tuple #[]) ∧ ∃ cv', MkGo B base mb vb cv cv' X (Mk.into Mk.lkL x d e (Mk.fill Mk.lkL v (l ++ [x]) (Mk.fix1 v (l ++ [x]) s))) W w' := by
  obtain ⟨W1, hW1⟩ : ∃ W1, W.alloc (.cells #[c0, c1, c2, c3] 41) = W1 := ⟨_, rfl⟩
  have hsz := hm.size
  have hv1 : TrmR W1 B (.mk 9 n v (l ++ [x])) [c0, c1, c2, c3] := TrmR.kept (by rw [← hW1]; exact (Below.one W _).mono hsz) _ _ hv
  obtain ⟨ov, lv, cvv, ot, lt, ct, rfl, rfl, rfl, rfl, hn, HBX, HM, HT, HV, HB1, hlt, hlv⟩ := term_box W B base mb vb cv X s _ n v _ _ _ _ _ hv hm W1 hW1
  have HW := Lib.hid hW1
  have HLV := Lib.hid hlv
  obtain ⟨L, hL⟩ : ∃ L, l.length = L := ⟨_, rfl⟩
  have HL0 := Lib.hid hL
  obtain rfl : lt = L + 1 := by rw [hlt, ← hL]; simp
  obtain ⟨tb, off, x0, x1, x2, x3, rfl, hpx⟩ := TrmS.part HT.out (i := L) (x := x) (by rw [← hL]; simp)
  obtain ⟨hltc, hltm⟩ := (SlC.lens HT.out).2
  have hTl : TrmS W1 B l (.slice (some ⟨tb, off, none⟩) L ct) := by
    have := SlC.takes (n := L) HT.out (by omega)
    rwa [show (l ++ [x]).take L = l from by rw [← hL, List.take_left]] at this
  have HPX := Lib.hid hpx
  have HTL := Lib.hid hTl
  have HX := Lib.hid hx
  have HWX := Lib.hid hwx
  rw [allL_append, show Trm.allL [x] = x.all by simp [Trm.allL]] at hroom
  have HRO := Lib.hid hroom
  have hxp := x.all_pos
  have hlp := Trm.allL_length l
  have hLi : ((L + 1 : Nat) : Int) - 1 = (L : Int) := by omega
  have e0 := HBX.out.cell 0 rfl
  have e3 := HBX.out.cell 3 rfl
  have el := HBX.out.lt
  have HA := Lib.hid (fix_any 9 n v (l ++ [x]) (by simp [hlv0]) hl _ _ _ _ B base mb vb cv X s nc nk fr sc W1 hv1 HM.out hwl (by rw [allL_append, show Trm.allL [x] = x.all by simp [Trm.allL]]; exact hroom))
  have hrf : Room (Mk.fill Mk.lkL v (l ++ [x]) (Mk.fix1 v (l ++ [x]) s)) (6 * x.all - 2) := by
    have e1 : Mk.fill Mk.lkL v (l ++ [x]) (Mk.fix1 v (l ++ [x]) s) = Mk.fill Mk.lkL v l (Mk.fix1 v (l ++ [x]) s) := by
      rw [← Mk.fill_take Mk.lkL v (l ++ [x]), ← hlv0, List.take_left]
    rw [e1]
    refine Room.fill Mk.lkL_ok v l (Room.fix1 v (l ++ [x]) (hroom.mono ?_))
    simp only [List.length_append, List.length_singleton]
    omega
  have HRF := Lib.hid hrf
  clear hv hv1 hm hW1 hroom hlt hlv hn hx hpx hTl hwx hL hl hwl hrf hlv0
  go_enter Tryz.func71, Tryz.ntmps71
  go_upto_region 1 with fail
  rw [HW.out]
  have e1 := HBX.out.cell 1 rfl
  have e2 := HBX.out.cell 2 rfl
  go_wp2_with fail
  with_reducible refine HA.out.mono ?_
  rintro r w5 ⟨rfl, cv5, hg5⟩
  have HG5 := Lib.hid hg5
  have HR5 := Lib.hid HRF.out
  clear hg5 e0 e1 e2 e3 el HA
  have HBX5 := Lib.hid (HG5.out.box HM.out HBX.out (by decide) (by decide))
  have HPX5 := Lib.hid (HPX.out.kept HG5.out.low)
  obtain ⟨qa, qb, qc, qd, qe, qf, rfl, rfl, rfl, rfl, _⟩ := TrmR.shape HPX5.out.r
  have HI := Lib.hid (HX.out _ _ _ _ B base mb vb cv5 X _ d nc nk fr sc' w5 HPX5.out.r HG5.out.inn HWX.out (HR5.out.mono (by omega)) hd)
  have e0 := HBX5.out.cell 0 rfl
  have e3 := HBX5.out.cell 3 rfl
  have el := HBX5.out.lt
  have q0 := HPX5.out.e0
  have q1 := HPX5.out.e1
  have q2 := HPX5.out.e2
  have q3 := HPX5.out.e3
  have ql := HPX5.out.size
  go_wp2_with fail
  with_reducible refine HI.out.mono ?_
  rintro r w6 ⟨rfl, cv6, hg6⟩
  have HG9 := Lib.hid ((HG5.out.next hg6).before HB1.out hsz)
  clear hg6 HI e0 e3 el q0 q1 q2 q3 ql
  go_wp2_with fail
  first | go_end0 | (refine bodyPost_ret (results_none rfl _ _ _) rfl ?_)
  exact ⟨rfl, _, HG9.out⟩
set_option maxHeartbeats 8000000 in
set_option maxRecDepth 100000 in
theorem into_let (e : Bool) (n : Int) (v : List Int) (l : List Trm) (x : Trm) (hlv0 : l.length = v.length) (hl : AllC l) (hx : IntoC e x) (c0 c1 c2 c3 : Value) (B base mb vb : Nat) (cv : Value) (X : Nat → Prop) (s : MSt) (d : Int) (nc nk : Int) (fr : Bool) (sc sc' : Int → Bool) (W : World)
    (hv : TrmR W B (.mk 8 n v (l ++ [x])) [c0, c1, c2, c3]) (hm : MkIn W B base mb vb cv X s) (hwl : ∀ y ∈ l, Trm.wf nc nk fr y sc = true) (hwx : Trm.wf nc nk fr x sc' = true) (hroom : Room s (6 * Trm.allL (l ++ [x]) + 4)) (hd : 0 ≤ d ∧ d ≤ 1900000) :
    Calls Tryz.prog 71 #[.pointer (some ⟨mb, 0, none⟩), .agg #[c0, c1, c2, c3], .int .i64 d, .bool e] W fun r w' => r = .returned (.tuple #[]) ∧ ∃ cv', MkGo B base mb vb cv cv' X (Mk.into Mk.lkL x d e ((Mk.allT Mk.lkL l s).2.bind v (Mk.allT Mk.lkL l s).1)) W w' := by
  obtain ⟨W1, hW1⟩ : ∃ W1, W.alloc (.cells #[c0, c1, c2, c3] 41) = W1 := ⟨_, rfl⟩
  have hsz := hm.size
  have hv1 : TrmR W1 B (.mk 8 n v (l ++ [x])) [c0, c1, c2, c3] := TrmR.kept (by rw [← hW1]; exact (Below.one W _).mono hsz) _ _ hv
  obtain ⟨ov, lv, cvv, ot, lt, ct, rfl, rfl, rfl, rfl, hn, HBX, HM, HT, HV, HB1, hlt, hlv⟩ := term_box W B base mb vb cv X s _ n v _ _ _ _ _ hv hm W1 hW1
  have HW := Lib.hid hW1
  have HLV := Lib.hid hlv
  obtain ⟨L, hL⟩ : ∃ L, l.length = L := ⟨_, rfl⟩
  have HL0 := Lib.hid hL
  obtain rfl : lt = L + 1 := by rw [hlt, ← hL]; simp
  obtain ⟨tb, off, x0, x1, x2, x3, rfl, hpx⟩ := TrmS.part HT.out (i := L) (x := x) (by rw [← hL]; simp)
  obtain ⟨hltc, hltm⟩ := (SlC.lens HT.out).2
  have hTl : TrmS W1 B l (.slice (some ⟨tb, off, none⟩) L ct) := by
    have := SlC.takes (n := L) HT.out (by omega)
    rwa [show (l ++ [x]).take L = l from by rw [← hL, List.take_left]] at this
  have HPX := Lib.hid hpx
  have HTL := Lib.hid hTl
  have HX := Lib.hid hx
  have HWX := Lib.hid hwx
  rw [allL_append, show Trm.allL [x] = x.all by simp [Trm.allL]] at hroom
  have HRO := Lib.hid hroom
  have hxp := x.all_pos
  have hlp := Trm.allL_length l
  have hLi : ((L + 1 : Nat) : Int) - 1 = (L : Int) := by omega
  have e0 := HBX.out.cell 0 rfl
  have e3 := HBX.out.cell 3 rfl
  have el := HBX.out.lt
  have HA := Lib.hid (hl (.slice (some ⟨tb, off, none⟩) L ct) B base mb vb cv X s nc nk fr sc W1 hTl HM.out hwl (hroom.mono (by omega)))
  have hra := Room.allT (k := 6 * x.all + 4) Mk.lkL_ok l s (hroom.mono (by omega))
  have HPL0 := Lib.hid (allT_length Mk.lkL l s)
  obtain ⟨p, hp⟩ : ∃ p, Mk.allT Mk.lkL l s = p := ⟨_, rfl⟩
  rw [hp] at HA hra HPL0
  have HP := Lib.hid hp
  have HRA := Lib.hid hra
  have HLV0 := Lib.hid hlv0
  clear hv hv1 hm hW1 hroom hlt hlv hn hx hpx hTl hwx hL hl hwl hra hp hlv0
  go_enter Tryz.func71, Tryz.ntmps71
  go_upto_region 1 with fail
  rw [HW.out]
  go_wp2_with fail
  with_reducible refine HA.out.mono ?_
  rintro r w2 ⟨rv, rfl, cv5, hg2, hi2⟩
  obtain ⟨ol, ll, cl, rfl⟩ := hi2.1.form
  have HG2 := Lib.hid hg2
  have HI2 := Lib.hid hi2
  have HLL := Lib.hid (show ll = L from by rw [hi2.1.lens.1, HPL0.out, HL0.out])
  obtain ⟨_, hlc, hlm⟩ := hi2.1.lens
  clear hg2 hi2 e0 e3 el HA
  go_wp2_with fail
  go_loopg [58] ll (fun g i wr => ∃ (j : Nat), g = ll - j ∧ i = .int .i64 j ∧ j ≤ ll ∧ Hid (MkGo B base mb vb cv5 cv5 X (p.2.bind (v.take j) (p.1.take j)) w2 wr))
  case atStart => exact ⟨0, rfl, rfl, by omega, Lib.hid (by simpa [MSt.bind] using MkGo.refl HG2.out.inn)⟩
  case round =>
    obtain ⟨j, rfl, rfl, hj, HG⟩ := hrel
    have HBX3 := Lib.hid ((HG2.out.next HG.out).box HM.out HBX.out (by decide) (by decide))
    by_cases hjl : j < ll
    · obtain ⟨y, hy⟩ : ∃ y, v[j]? = some y := ⟨_, List.getElem?_eq_getElem (by have := HLL.out; have := HLV0.out; have := HL0.out; omega)⟩
      obtain ⟨r0, hr0⟩ : ∃ r0, p.1[j]? = some r0 := ⟨_, List.getElem?_eq_getElem (by have := HLL.out; have := HPL0.out; have := HL0.out; omega)⟩
      obtain ⟨yb, yoff, hyo, hyb, hyc, hyi⟩ := SlC.int (HV.out.kept (HG2.out.low.trans HG.out.low) fun _ _ _ h => h) hy
      obtain ⟨gb, goff, hgo, hgb, hgc, hgi⟩ := SlC.int (IntsM.go HI2.out HG.out).1 hr0
      subst hyo hgo
      have hyl := cell_lt hyc
      have hgl := cell_lt hgc
      have HYI := Lib.hid hyi
      have HGI := Lib.hid hgi
      have hjv : j < lv := by have := HLL.out; have := HLV0.out; have := HLV.out; have := HL0.out; omega
      have HSN := Lib.hid (show p.2.bind (v.take (j + 1)) (p.1.take (j + 1)) = (p.2.bind (v.take j) (p.1.take j)).bind [y] [r0] from by
        simp only [MSt.bind]
        rw [List.take_add_one, hy, List.take_add_one, hr0, List.zip_append (by rw [List.length_take, List.length_take]; have := (List.getElem?_eq_some_iff.1 hy).1; have := (List.getElem?_eq_some_iff.1 hr0).1; omega), List.append_assoc]
        rfl)
      have hvl : (p.2.bind (v.take j) (p.1.take j)).vars.length < 1000000000000 := by
        have h1 := HRA.out.1.2.2.2.2
        simp only [MSt.bind, List.length_append, List.length_zip, List.length_take]
        have := HLL.out
        have := HPL0.out
        have h3 := HRO.out.1
        have h4 := HL0.out
        omega
      have m2 := HG.out.inn.st.box.cell 2 rfl
      have ml := HG.out.inn.st.box.lt
      have e2 := HBX3.out.cell 2 rfl
      have el := HBX3.out.lt
      clear hy hr0 hyi hgi
      go_upto_region 15 with fail
      have HD := Lib.hid ((Below.refl wr.heap.size wr).drew)
      refine wp_region_quiet_class (Below wr.heap.size wr) 10 (by kernel_rfl) (by kernel_rfl) HD.out ?_
      intro T0 _ WW HWW HWW2
      have z0 : ∀ t, (WW t).cell? _ = _ := fun t => ((HWW t).cell (p := ⟨yb, yoff + j, none⟩) hyl).trans hyc
      have z1 : ∀ t, (WW t).cell? _ = _ := fun t => ((HWW t).cell (p := ⟨W.heap.size, 2, none⟩) el).trans e2
      have z2 : ∀ t, (WW t).cell? _ = _ := fun t => ((HWW t).cell (p := ⟨mb, 2, none⟩) ml).trans m2
      have HWH := Lib.hid HWW
      clear HWW HWW2
      simp only [List.take_succ_cons, List.take_zero, List.drop_succ_cons, List.drop_zero]
      repeat (go_big_quiet_step (fail))
      refine wpQuiet_nil ?_
      intro t'
      obtain ⟨W3, hW3⟩ : ∃ W3, WW t' = W3 := ⟨_, rfl⟩
      have HB3 := Lib.hid (show Below wr.heap.size wr W3 from hW3 ▸ HWH.out t')
      rw [hW3]
      clear z0 z1 z2 hW3 HWH hyl hyc m2 ml e2 el hgc hgl
      have HG3 := Lib.hid (HG.out.after HB3.out)
      go_wp2_with (at_mapUpdate; refine wpList_putVI rfl _ _ _ rfl vb _ _ rfl HG3.out.inn.st.vars hvl y r0 rfl rfl HYI.out HGI.out ?_; intro w4 hm4 hg4; have HG4 := Lib.hid (HG3.out.next (HG3.out.inn.bound y r0 hm4 hg4)); clear hm4 hg4)
      rw [← HSN.out] at HG4
      clear hvl
      go_roundg (ll - (j + 1))
      case measure => omega
      case rel => exact ⟨j + 1, rfl, by go_num, by omega, HG4⟩
    · obtain rfl : j = ll := by omega
      have HE1 := Lib.hid (show v.take j = v from List.take_of_length_le (by have := HLL.out; have := HLV0.out; have := HL0.out; omega))
      have HE2 := Lib.hid (show p.1.take j = p.1 from List.take_of_length_le (by have := HLL.out; have := HPL0.out; have := HL0.out; omega))
      have hg := HG2.out.next HG.out
      rw [HE1.out, HE2.out] at hg
      have HG5 := Lib.hid hg
      have HR5 := Lib.hid (show Room (p.2.bind v p.1) (6 * x.all - 2) from by
        have h1 := allT_room Mk.lkL_ok l s (6 * x.all - 2 + p.1.length) (HRO.out.mono (by rw [HPL0.out]; omega))
        rw [HP.out] at h1
        exact Room.bind v p.1 h1 HRA.out.2)
      clear hg
      have HBX5 := Lib.hid (HG5.out.box HM.out HBX.out (by decide) (by decide))
      have HPX5 := Lib.hid (HPX.out.kept HG5.out.low)
      obtain ⟨qa, qb, qc, qd, qe, qf, rfl, rfl, rfl, rfl, _⟩ := TrmR.shape HPX5.out.r
      have HI := Lib.hid (HX.out _ _ _ _ B base mb vb cv5 X _ d nc nk fr sc' wr HPX5.out.r HG5.out.inn HWX.out (HR5.out.mono (by omega)) hd)
      have e0 := HBX5.out.cell 0 rfl
      have e3 := HBX5.out.cell 3 rfl
      have el := HBX5.out.lt
      have q0 := HPX5.out.e0
      have q1 := HPX5.out.e1
      have q2 := HPX5.out.e2
      have q3 := HPX5.out.e3
      have ql := HPX5.out.size
      go_wp2_with fail
      with_reducible refine HI.out.mono ?_
      rintro r w6 ⟨rfl, cv6, hg6⟩
      have HG9 := Lib.hid ((HG5.out.next hg6).before HB1.out hsz)
      clear hg6 HI e0 e3 el q0 q1 q2 q3 ql
      go_wp2_with fail
      first | go_end0 | (refine bodyPost_ret (results_none rfl _ _ _) rfl ?_)
      exact ⟨rfl, _, by rw [HP.out]; exact HG9.out⟩
end Go.Proofs.YtigkhmppnnljiaaGreatDoor

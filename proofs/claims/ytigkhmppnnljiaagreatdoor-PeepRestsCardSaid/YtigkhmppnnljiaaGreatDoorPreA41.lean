/-
  What the proofs lean on: Zs.
-/
import Derived.Test.YtigkhmppnnljiaaGreatDoorPreA30
import Derived.Test.YtigkhmppnnljiaaGreatDoorPreA39
set_option maxRecDepth 100000
set_option maxHeartbeats 16000000
namespace Go.Proofs.YtigkhmppnnljiaaGreatDoor
section
open Go Go.RowKit Mk
theorem zstrict_10 (n : Int) (ov ot : Option Addr) (lv cvv lt ct : Nat) (rs : List Int) (ol : Option Addr) (ll cl : Nat) (B base mb : Nat) (K : KV) (X : Nat → Prop) (s : MSt) (d : Int) (W : World) (hm : ZkIn W B base mb K X s) (hi : IntsM W (fun b => SZ mb K b ∨ X b) rs (.slice ol ll cl)) (hn : I64 n) (hroom : Room s 2) (hd : 0 ≤ d ∧ d ≤ 1900000) :
  Calls Tryz.prog 124 #[.pointer (some ⟨mb, 0, none⟩), .agg #[.int .i64 10, .int .i64 n, .slice ov lv cvv, .slice ot lt ct], .int .i64 d, .slice ol ll cl] W fun r w' => r = .returned (.tuple #[]) ∧ ∃ K', ZkGo B base mb K K' X (Mk.strict 10 n d rs s) W w' := by
 obtain ⟨W1, hW1⟩ : ∃ W1, W.alloc (.cells #[.int .i64 10, .int .i64 n, .slice ov lv cvv, .slice ot lt ct] 41) = W1 := ⟨_, rfl⟩
 have HB1 := Lib.hid (show Below W.heap.size W W1 from by rw [← hW1]; exact Below.one W _)
 have HBX := Lib.hid (show BoxL W1 W.heap.size 41 [.int .i64 10, .int .i64 n, .slice ov lv cvv, .slice ot lt ct] from by rw [← hW1]; exact BoxL.new rfl _ _)
 have HM := Lib.hid (hm.keep HB1.out)
 have hsz := hm.size
 have HW := Lib.hid hW1
 have HI1 := Lib.hid (hi.below HB1.out)
 have HN := Lib.hid hn
 have HRO := Lib.hid hroom
 have hcode : s.code.length ≤ 1000000 := by have := hroom.1; omega
 have hdi : I64 d := ⟨by omega, by omega⟩
 have e0 := HBX.out.cell 0 rfl
 have e1 := HBX.out.cell 1 rfl
 have el := HBX.out.lt
 obtain ⟨hll, hlc, hlm⟩ := HI1.out.1.lens
 clear hm hW1 hi hn hroom
 clear hll
 go_enter Tryz.func124, Tryz.ntmps124
 go_upto_region 1 with fail
 rw [HW.out]
 have HL := Lib.hid (zput_any 9 d n 0 rs ol ll cl W1 HM.out hcode (by constructor <;> omega) hdi HN.out (by constructor <;> omega) HI1.out)
 go_wp2_with fail
 with_reducible refine HL.out.mono ?_
 rintro r w3 ⟨rfl, K3, hg3⟩
 have HG9 := Lib.hid (((ZkGo.refl HM.out).next hg3).before HB1.out hsz)
 clear hg3 HL e0 e1 el
 go_wp2_with fail
 first | go_end0 | (refine bodyPost_ret (results_none rfl _ _ _) rfl ?_) | fail
 exact ⟨rfl, _, HG9.out⟩
theorem zstrict_19 (n : Int) (ov ot : Option Addr) (lv cvv lt ct : Nat) (rs : List Int) (ol : Option Addr) (ll cl : Nat) (B base mb : Nat) (K : KV) (X : Nat → Prop) (s : MSt) (d : Int) (W : World) (hm : ZkIn W B base mb K X s) (hi : IntsM W (fun b => SZ mb K b ∨ X b) rs (.slice ol ll cl)) (hn : I64 n) (hroom : Room s 2) (hd : 0 ≤ d ∧ d ≤ 1900000) :
  Calls Tryz.prog 124 #[.pointer (some ⟨mb, 0, none⟩), .agg #[.int .i64 19, .int .i64 n, .slice ov lv cvv, .slice ot lt ct], .int .i64 d, .slice ol ll cl] W fun r w' => r = .returned (.tuple #[]) ∧ ∃ K', ZkGo B base mb K K' X (Mk.strict 19 n d rs s) W w' := by
 obtain ⟨W1, hW1⟩ : ∃ W1, W.alloc (.cells #[.int .i64 19, .int .i64 n, .slice ov lv cvv, .slice ot lt ct] 41) = W1 := ⟨_, rfl⟩
 have HB1 := Lib.hid (show Below W.heap.size W W1 from by rw [← hW1]; exact Below.one W _)
 have HBX := Lib.hid (show BoxL W1 W.heap.size 41 [.int .i64 19, .int .i64 n, .slice ov lv cvv, .slice ot lt ct] from by rw [← hW1]; exact BoxL.new rfl _ _)
 have HM := Lib.hid (hm.keep HB1.out)
 have hsz := hm.size
 have HW := Lib.hid hW1
 have HI1 := Lib.hid (hi.below HB1.out)
 have HN := Lib.hid hn
 have HRO := Lib.hid hroom
 have hcode : s.code.length ≤ 1000000 := by have := hroom.1; omega
 have hdi : I64 d := ⟨by omega, by omega⟩
 have e0 := HBX.out.cell 0 rfl
 have e1 := HBX.out.cell 1 rfl
 have el := HBX.out.lt
 obtain ⟨hll, hlc, hlm⟩ := HI1.out.1.lens
 clear hm hW1 hi hn hroom
 clear hll
 go_enter Tryz.func124, Tryz.ntmps124
 go_upto_region 1 with fail
 rw [HW.out]
 have HL := Lib.hid (zput_any 7 d n 0 rs ol ll cl W1 HM.out hcode (by constructor <;> omega) hdi HN.out (by constructor <;> omega) HI1.out)
 go_wp2_with fail
 with_reducible refine HL.out.mono ?_
 rintro r w3 ⟨rfl, K3, hg3⟩
 have HG9 := Lib.hid (((ZkGo.refl HM.out).next hg3).before HB1.out hsz)
 clear hg3 HL e0 e1 el
 go_wp2_with fail
 first | go_end0 | (refine bodyPost_ret (results_none rfl _ _ _) rfl ?_) | fail
 exact ⟨rfl, _, HG9.out⟩
theorem zstrict_12 (n : Int) (ov ot : Option Addr) (lv cvv lt ct : Nat) (rs : List Int) (hct : 1 ≤ rs.length) (ol : Option Addr) (ll cl : Nat) (B base mb : Nat) (K : KV) (X : Nat → Prop) (s : MSt) (d : Int) (W : World) (hm : ZkIn W B base mb K X s) (hi : IntsM W (fun b => SZ mb K b ∨ X b) rs (.slice ol ll cl)) (hn : I64 n) (hroom : Room s 2) (hd : 0 ≤ d ∧ d ≤ 1900000) :
  Calls Tryz.prog 124 #[.pointer (some ⟨mb, 0, none⟩), .agg #[.int .i64 12, .int .i64 n, .slice ov lv cvv, .slice ot lt ct], .int .i64 d, .slice ol ll cl] W fun r w' => r = .returned (.tuple #[]) ∧ ∃ K', ZkGo B base mb K K' X (Mk.strict 12 n d rs s) W w' := by
 obtain ⟨W1, hW1⟩ : ∃ W1, W.alloc (.cells #[.int .i64 12, .int .i64 n, .slice ov lv cvv, .slice ot lt ct] 41) = W1 := ⟨_, rfl⟩
 have HB1 := Lib.hid (show Below W.heap.size W W1 from by rw [← hW1]; exact Below.one W _)
 have HBX := Lib.hid (show BoxL W1 W.heap.size 41 [.int .i64 12, .int .i64 n, .slice ov lv cvv, .slice ot lt ct] from by rw [← hW1]; exact BoxL.new rfl _ _)
 have HM := Lib.hid (hm.keep HB1.out)
 have hsz := hm.size
 have HW := Lib.hid hW1
 have HI1 := Lib.hid (hi.below HB1.out)
 have HN := Lib.hid hn
 have HRO := Lib.hid hroom
 have hcode : s.code.length ≤ 1000000 := by have := hroom.1; omega
 have hdi : I64 d := ⟨by omega, by omega⟩
 have e0 := HBX.out.cell 0 rfl
 have e1 := HBX.out.cell 1 rfl
 have el := HBX.out.lt
 obtain ⟨hll, hlc, hlm⟩ := HI1.out.1.lens
 clear hm hW1 hi hn hroom
 obtain ⟨r0, rl, rfl⟩ : ∃ r0 rl, rs = r0 :: rl := by
  cases rs with
  | nil => simp at hct
  | cons a b => exact ⟨a, b, rfl⟩
 obtain ⟨gb, goff, hgo, hgb, hgc, hri⟩ := SlC.int (j := 0) HI1.out.1 (x := r0) rfl
 subst hgo
 have hgl := cell_lt hgc
 rw [Nat.add_zero] at hgc
 simp only [List.length_cons] at hll
 subst hll
 have HRI := Lib.hid hri
 clear hri
 go_enter Tryz.func124, Tryz.ntmps124
 go_upto_region 1 with fail
 rw [HW.out]
 have HL := Lib.hid (zput_any 14 d r0 0 [] none 0 0 W1 HM.out hcode (by constructor <;> omega) hdi HRI.out (by constructor <;> omega) (IntsM.nil _ _))
 go_wp2_with fail
 with_reducible refine HL.out.mono ?_
 rintro r w3 ⟨rfl, K3, hg3⟩
 have HG9 := Lib.hid (((ZkGo.refl HM.out).next hg3).before HB1.out hsz)
 clear hg3 HL e0 e1 el
 go_wp2_with fail
 first | go_end0 | (refine bodyPost_ret (results_none rfl _ _ _) rfl ?_) | fail
 exact ⟨rfl, _, HG9.out⟩
theorem zstrict_15 (n : Int) (ov ot : Option Addr) (lv cvv lt ct : Nat) (rs : List Int) (hct : 1 ≤ rs.length) (ol : Option Addr) (ll cl : Nat) (B base mb : Nat) (K : KV) (X : Nat → Prop) (s : MSt) (d : Int) (W : World) (hm : ZkIn W B base mb K X s) (hi : IntsM W (fun b => SZ mb K b ∨ X b) rs (.slice ol ll cl)) (hn : I64 n) (hroom : Room s 2) (hd : 0 ≤ d ∧ d ≤ 1900000) :
  Calls Tryz.prog 124 #[.pointer (some ⟨mb, 0, none⟩), .agg #[.int .i64 15, .int .i64 n, .slice ov lv cvv, .slice ot lt ct], .int .i64 d, .slice ol ll cl] W fun r w' => r = .returned (.tuple #[]) ∧ ∃ K', ZkGo B base mb K K' X (Mk.strict 15 n d rs s) W w' := by
 obtain ⟨W1, hW1⟩ : ∃ W1, W.alloc (.cells #[.int .i64 15, .int .i64 n, .slice ov lv cvv, .slice ot lt ct] 41) = W1 := ⟨_, rfl⟩
 have HB1 := Lib.hid (show Below W.heap.size W W1 from by rw [← hW1]; exact Below.one W _)
 have HBX := Lib.hid (show BoxL W1 W.heap.size 41 [.int .i64 15, .int .i64 n, .slice ov lv cvv, .slice ot lt ct] from by rw [← hW1]; exact BoxL.new rfl _ _)
 have HM := Lib.hid (hm.keep HB1.out)
 have hsz := hm.size
 have HW := Lib.hid hW1
 have HI1 := Lib.hid (hi.below HB1.out)
 have HN := Lib.hid hn
 have HRO := Lib.hid hroom
 have hcode : s.code.length ≤ 1000000 := by have := hroom.1; omega
 have hdi : I64 d := ⟨by omega, by omega⟩
 have e0 := HBX.out.cell 0 rfl
 have e1 := HBX.out.cell 1 rfl
 have el := HBX.out.lt
 obtain ⟨hll, hlc, hlm⟩ := HI1.out.1.lens
 clear hm hW1 hi hn hroom
 obtain ⟨r0, rl, rfl⟩ : ∃ r0 rl, rs = r0 :: rl := by
  cases rs with
  | nil => simp at hct
  | cons a b => exact ⟨a, b, rfl⟩
 obtain ⟨gb, goff, hgo, hgb, hgc, hri⟩ := SlC.int (j := 0) HI1.out.1 (x := r0) rfl
 subst hgo
 have hgl := cell_lt hgc
 rw [Nat.add_zero] at hgc
 simp only [List.length_cons] at hll
 subst hll
 have HRI := Lib.hid hri
 clear hri
 go_enter Tryz.func124, Tryz.ntmps124
 go_upto_region 1 with fail
 rw [HW.out]
 have HL := Lib.hid (zput_any 10 d r0 0 [] none 0 0 W1 HM.out hcode (by constructor <;> omega) hdi HRI.out (by constructor <;> omega) (IntsM.nil _ _))
 go_wp2_with fail
 with_reducible refine HL.out.mono ?_
 rintro r w3 ⟨rfl, K3, hg3⟩
 have HG9 := Lib.hid (((ZkGo.refl HM.out).next hg3).before HB1.out hsz)
 clear hg3 HL e0 e1 el
 go_wp2_with fail
 first | go_end0 | (refine bodyPost_ret (results_none rfl _ _ _) rfl ?_) | fail
 exact ⟨rfl, _, HG9.out⟩
theorem zstrict_16 (n : Int) (ov ot : Option Addr) (lv cvv lt ct : Nat) (rs : List Int) (hct : 1 ≤ rs.length) (ol : Option Addr) (ll cl : Nat) (B base mb : Nat) (K : KV) (X : Nat → Prop) (s : MSt) (d : Int) (W : World) (hm : ZkIn W B base mb K X s) (hi : IntsM W (fun b => SZ mb K b ∨ X b) rs (.slice ol ll cl)) (hn : I64 n) (hroom : Room s 2) (hd : 0 ≤ d ∧ d ≤ 1900000) :
  Calls Tryz.prog 124 #[.pointer (some ⟨mb, 0, none⟩), .agg #[.int .i64 16, .int .i64 n, .slice ov lv cvv, .slice ot lt ct], .int .i64 d, .slice ol ll cl] W fun r w' => r = .returned (.tuple #[]) ∧ ∃ K', ZkGo B base mb K K' X (Mk.strict 16 n d rs s) W w' := by
 obtain ⟨W1, hW1⟩ : ∃ W1, W.alloc (.cells #[.int .i64 16, .int .i64 n, .slice ov lv cvv, .slice ot lt ct] 41) = W1 := ⟨_, rfl⟩
 have HB1 := Lib.hid (show Below W.heap.size W W1 from by rw [← hW1]; exact Below.one W _)
 have HBX := Lib.hid (show BoxL W1 W.heap.size 41 [.int .i64 16, .int .i64 n, .slice ov lv cvv, .slice ot lt ct] from by rw [← hW1]; exact BoxL.new rfl _ _)
 have HM := Lib.hid (hm.keep HB1.out)
 have hsz := hm.size
 have HW := Lib.hid hW1
 have HI1 := Lib.hid (hi.below HB1.out)
 have HN := Lib.hid hn
 have HRO := Lib.hid hroom
 have hcode : s.code.length ≤ 1000000 := by have := hroom.1; omega
 have hdi : I64 d := ⟨by omega, by omega⟩
 have e0 := HBX.out.cell 0 rfl
 have e1 := HBX.out.cell 1 rfl
 have el := HBX.out.lt
 obtain ⟨hll, hlc, hlm⟩ := HI1.out.1.lens
 clear hm hW1 hi hn hroom
 obtain ⟨r0, rl, rfl⟩ : ∃ r0 rl, rs = r0 :: rl := by
  cases rs with
  | nil => simp at hct
  | cons a b => exact ⟨a, b, rfl⟩
 obtain ⟨gb, goff, hgo, hgb, hgc, hri⟩ := SlC.int (j := 0) HI1.out.1 (x := r0) rfl
 subst hgo
 have hgl := cell_lt hgc
 rw [Nat.add_zero] at hgc
 simp only [List.length_cons] at hll
 subst hll
 have HRI := Lib.hid hri
 clear hri
 go_enter Tryz.func124, Tryz.ntmps124
 go_upto_region 1 with fail
 rw [HW.out]
 have HL := Lib.hid (zput_any 11 d r0 0 [] none 0 0 W1 HM.out hcode (by constructor <;> omega) hdi HRI.out (by constructor <;> omega) (IntsM.nil _ _))
 go_wp2_with fail
 with_reducible refine HL.out.mono ?_
 rintro r w3 ⟨rfl, K3, hg3⟩
 have HG9 := Lib.hid (((ZkGo.refl HM.out).next hg3).before HB1.out hsz)
 clear hg3 HL e0 e1 el
 go_wp2_with fail
 first | go_end0 | (refine bodyPost_ret (results_none rfl _ _ _) rfl ?_) | fail
 exact ⟨rfl, _, HG9.out⟩
theorem zstrict_5 (n : Int) (ov ot : Option Addr) (lv cvv lt ct : Nat) (rs : List Int) (hct : 1 ≤ rs.length) (ol : Option Addr) (ll cl : Nat) (B base mb : Nat) (K : KV) (X : Nat → Prop) (s : MSt) (d : Int) (W : World) (hm : ZkIn W B base mb K X s) (hi : IntsM W (fun b => SZ mb K b ∨ X b) rs (.slice ol ll cl)) (hn : I64 n) (hroom : Room s 2) (hd : 0 ≤ d ∧ d ≤ 1900000) :
  Calls Tryz.prog 124 #[.pointer (some ⟨mb, 0, none⟩), .agg #[.int .i64 5, .int .i64 n, .slice ov lv cvv, .slice ot lt ct], .int .i64 d, .slice ol ll cl] W fun r w' => r = .returned (.tuple #[]) ∧ ∃ K', ZkGo B base mb K K' X (Mk.strict 5 n d rs s) W w' := by
 obtain ⟨W1, hW1⟩ : ∃ W1, W.alloc (.cells #[.int .i64 5, .int .i64 n, .slice ov lv cvv, .slice ot lt ct] 41) = W1 := ⟨_, rfl⟩
 have HB1 := Lib.hid (show Below W.heap.size W W1 from by rw [← hW1]; exact Below.one W _)
 have HBX := Lib.hid (show BoxL W1 W.heap.size 41 [.int .i64 5, .int .i64 n, .slice ov lv cvv, .slice ot lt ct] from by rw [← hW1]; exact BoxL.new rfl _ _)
 have HM := Lib.hid (hm.keep HB1.out)
 have hsz := hm.size
 have HW := Lib.hid hW1
 have HI1 := Lib.hid (hi.below HB1.out)
 have HN := Lib.hid hn
 have HRO := Lib.hid hroom
 have hcode : s.code.length ≤ 1000000 := by have := hroom.1; omega
 have hdi : I64 d := ⟨by omega, by omega⟩
 have e0 := HBX.out.cell 0 rfl
 have e1 := HBX.out.cell 1 rfl
 have el := HBX.out.lt
 obtain ⟨hll, hlc, hlm⟩ := HI1.out.1.lens
 clear hm hW1 hi hn hroom
 obtain ⟨r0, rl, rfl⟩ : ∃ r0 rl, rs = r0 :: rl := by
  cases rs with
  | nil => simp at hct
  | cons a b => exact ⟨a, b, rfl⟩
 obtain ⟨gb, goff, hgo, hgb, hgc, hri⟩ := SlC.int (j := 0) HI1.out.1 (x := r0) rfl
 subst hgo
 have hgl := cell_lt hgc
 rw [Nat.add_zero] at hgc
 simp only [List.length_cons] at hll
 subst hll
 have HRI := Lib.hid hri
 clear hri
 go_enter Tryz.func124, Tryz.ntmps124
 go_upto_region 1 with fail
 rw [HW.out]
 go_upto_region 3 with fail
 by_cases hcl1 : cl = 1
 ·subst hcl1
  have HDR := Lib.hid (IntsM.rest1 HI1.out)
  have HDL := Lib.hid (fun (W3 : World) (hb : Below W1.heap.size W1 W3) => zput_any 17 d r0 0 rl (some ⟨gb, goff, none⟩) 0 0 W3 (HM.out.keep hb) hcode (by constructor <;> omega) hdi HRI.out (by constructor <;> omega) (HDR.out.below hb))
  have HD := Lib.hid ((Below.refl W1.heap.size W1).drew)
  refine wp_region_quiet_class (Below W1.heap.size W1) 8 (by kernel_rfl) (by kernel_rfl) HD.out ?_
  intro T0 _ WW HWW HWW2
  have z0 : ∀ t, (WW t).cell? _ = _ := fun t => ((HWW t).cell (p := ⟨gb, goff, none⟩) hgl).trans hgc
  have HWH := Lib.hid HWW
  clear HWW HWW2
  simp only [List.take_succ_cons, List.take_zero, List.drop_succ_cons, List.drop_zero]
  repeat (go_big_quiet_step (fail))
  refine wpQuiet_nil ?_
  intro t'
  obtain ⟨W3, hW3⟩ : ∃ W3, WW t' = W3 := ⟨_, rfl⟩
  have HB3 := Lib.hid (show Below W1.heap.size W1 W3 from hW3 ▸ HWH.out t')
  rw [hW3]
  clear z0 hW3 HWH
  have HL := Lib.hid (HDL.out W3 HB3.out)
  clear e0 e1 el
  go_wp2_with fail
  with_reducible refine HL.out.mono ?_
  rintro r w3 ⟨rfl, K3, hg3⟩
  have HG9 := Lib.hid ((((ZkGo.refl HM.out).after HB3.out).next hg3).before HB1.out hsz)
  clear hg3 HL hgc hgl
  go_wp2_with fail
  first | go_end0 | (refine bodyPost_ret (results_none rfl _ _ _) rfl ?_) | fail
  exact ⟨rfl, _, HG9.out⟩
 ·have hcl2 : 1 < cl := by omega
  have HDR := Lib.hid (IntsM.rest2 HI1.out hcl1)
  have HDL := Lib.hid (fun (W3 : World) (hb : Below W1.heap.size W1 W3) => zput_any 17 d r0 0 rl (some ⟨gb, goff + 1, none⟩) rl.length (cl - 1) W3 (HM.out.keep hb) hcode (by constructor <;> omega) hdi HRI.out (by constructor <;> omega) (HDR.out.below hb))
  have HD := Lib.hid ((Below.refl W1.heap.size W1).drew)
  refine wp_region_quiet_class (Below W1.heap.size W1) 8 (by kernel_rfl) (by kernel_rfl) HD.out ?_
  intro T0 _ WW HWW HWW2
  have z0 : ∀ t, (WW t).cell? _ = _ := fun t => ((HWW t).cell (p := ⟨gb, goff, none⟩) hgl).trans hgc
  have HWH := Lib.hid HWW
  clear HWW HWW2
  simp only [List.take_succ_cons, List.take_zero, List.drop_succ_cons, List.drop_zero]
  repeat (go_big_quiet_step (fail))
  refine wpQuiet_nil ?_
  intro t'
  obtain ⟨W3, hW3⟩ : ∃ W3, WW t' = W3 := ⟨_, rfl⟩
  have HB3 := Lib.hid (show Below W1.heap.size W1 W3 from hW3 ▸ HWH.out t')
  rw [hW3]
  clear z0 hW3 HWH
  have HL := Lib.hid (HDL.out W3 HB3.out)
  clear e0 e1 el
  go_wp2_with fail
  with_reducible refine HL.out.mono ?_
  rintro r w3 ⟨rfl, K3, hg3⟩
  have HG9 := Lib.hid ((((ZkGo.refl HM.out).after HB3.out).next hg3).before HB1.out hsz)
  clear hg3 HL hgc hgl
  go_wp2_with fail
  first | go_end0 | (refine bodyPost_ret (results_none rfl _ _ _) rfl ?_) | fail
  exact ⟨rfl, _, HG9.out⟩
theorem zstrict_22 (n : Int) (ov ot : Option Addr) (lv cvv lt ct : Nat) (rs : List Int) (hct : 1 ≤ rs.length) (ol : Option Addr) (ll cl : Nat) (B base mb : Nat) (K : KV) (X : Nat → Prop) (s : MSt) (d : Int) (W : World) (hm : ZkIn W B base mb K X s) (hi : IntsM W (fun b => SZ mb K b ∨ X b) rs (.slice ol ll cl)) (hn : I64 n) (hroom : Room s 2) (hd : 0 ≤ d ∧ d ≤ 1900000) :
  Calls Tryz.prog 124 #[.pointer (some ⟨mb, 0, none⟩), .agg #[.int .i64 22, .int .i64 n, .slice ov lv cvv, .slice ot lt ct], .int .i64 d, .slice ol ll cl] W fun r w' => r = .returned (.tuple #[]) ∧ ∃ K', ZkGo B base mb K K' X (Mk.strict 22 n d rs s) W w' := by
 obtain ⟨W1, hW1⟩ : ∃ W1, W.alloc (.cells #[.int .i64 22, .int .i64 n, .slice ov lv cvv, .slice ot lt ct] 41) = W1 := ⟨_, rfl⟩
 have HB1 := Lib.hid (show Below W.heap.size W W1 from by rw [← hW1]; exact Below.one W _)
 have HBX := Lib.hid (show BoxL W1 W.heap.size 41 [.int .i64 22, .int .i64 n, .slice ov lv cvv, .slice ot lt ct] from by rw [← hW1]; exact BoxL.new rfl _ _)
 have HM := Lib.hid (hm.keep HB1.out)
 have hsz := hm.size
 have HW := Lib.hid hW1
 have HI1 := Lib.hid (hi.below HB1.out)
 have HN := Lib.hid hn
 have HRO := Lib.hid hroom
 have hcode : s.code.length ≤ 1000000 := by have := hroom.1; omega
 have hdi : I64 d := ⟨by omega, by omega⟩
 have e0 := HBX.out.cell 0 rfl
 have e1 := HBX.out.cell 1 rfl
 have el := HBX.out.lt
 obtain ⟨hll, hlc, hlm⟩ := HI1.out.1.lens
 clear hm hW1 hi hn hroom
 obtain ⟨r0, rl, rfl⟩ : ∃ r0 rl, rs = r0 :: rl := by
  cases rs with
  | nil => simp at hct
  | cons a b => exact ⟨a, b, rfl⟩
 obtain ⟨gb, goff, hgo, hgb, hgc, hri⟩ := SlC.int (j := 0) HI1.out.1 (x := r0) rfl
 subst hgo
 have hgl := cell_lt hgc
 rw [Nat.add_zero] at hgc
 simp only [List.length_cons] at hll
 subst hll
 have HRI := Lib.hid hri
 clear hri
 go_enter Tryz.func124, Tryz.ntmps124
 go_upto_region 1 with fail
 rw [HW.out]
 go_upto_region 5 with fail
 by_cases hcl1 : cl = 1
 ·subst hcl1
  have HDR := Lib.hid (IntsM.rest1 HI1.out)
  have HDL := Lib.hid (fun (W3 : World) (hb : Below W1.heap.size W1 W3) => zput_any 18 d n r0 rl (some ⟨gb, goff, none⟩) 0 0 W3 (HM.out.keep hb) hcode (by constructor <;> omega) hdi HN.out HRI.out (HDR.out.below hb))
  have HD := Lib.hid ((Below.refl W1.heap.size W1).drew)
  refine wp_region_quiet_class (Below W1.heap.size W1) 10 (by kernel_rfl) (by kernel_rfl) HD.out ?_
  intro T0 _ WW HWW HWW2
  have z0 : ∀ t, (WW t).cell? _ = _ := fun t => ((HWW t).cell (p := ⟨gb, goff, none⟩) hgl).trans hgc
  have z1 : ∀ t, (WW t).cell? _ = _ := fun t => ((HWW t).cell (p := ⟨W.heap.size, 1, none⟩) el).trans e1
  have HWH := Lib.hid HWW
  clear HWW HWW2
  simp only [List.take_succ_cons, List.take_zero, List.drop_succ_cons, List.drop_zero]
  repeat (go_big_quiet_step (fail))
  refine wpQuiet_nil ?_
  intro t'
  obtain ⟨W3, hW3⟩ : ∃ W3, WW t' = W3 := ⟨_, rfl⟩
  have HB3 := Lib.hid (show Below W1.heap.size W1 W3 from hW3 ▸ HWH.out t')
  rw [hW3]
  clear z0 z1 hW3 HWH
  have HL := Lib.hid (HDL.out W3 HB3.out)
  clear e0 e1 el
  go_wp2_with fail
  with_reducible refine HL.out.mono ?_
  rintro r w3 ⟨rfl, K3, hg3⟩
  have HG9 := Lib.hid ((((ZkGo.refl HM.out).after HB3.out).next hg3).before HB1.out hsz)
  clear hg3 HL hgc hgl
  go_wp2_with fail
  first | go_end0 | (refine bodyPost_ret (results_none rfl _ _ _) rfl ?_) | fail
  exact ⟨rfl, _, HG9.out⟩
 ·have hcl2 : 1 < cl := by omega
  have HDR := Lib.hid (IntsM.rest2 HI1.out hcl1)
  have HDL := Lib.hid (fun (W3 : World) (hb : Below W1.heap.size W1 W3) => zput_any 18 d n r0 rl (some ⟨gb, goff + 1, none⟩) rl.length (cl - 1) W3 (HM.out.keep hb) hcode (by constructor <;> omega) hdi HN.out HRI.out (HDR.out.below hb))
  have HD := Lib.hid ((Below.refl W1.heap.size W1).drew)
  refine wp_region_quiet_class (Below W1.heap.size W1) 10 (by kernel_rfl) (by kernel_rfl) HD.out ?_
  intro T0 _ WW HWW HWW2
  have z0 : ∀ t, (WW t).cell? _ = _ := fun t => ((HWW t).cell (p := ⟨gb, goff, none⟩) hgl).trans hgc
  have z1 : ∀ t, (WW t).cell? _ = _ := fun t => ((HWW t).cell (p := ⟨W.heap.size, 1, none⟩) el).trans e1
  have HWH := Lib.hid HWW
  clear HWW HWW2
  simp only [List.take_succ_cons, List.take_zero, List.drop_succ_cons, List.drop_zero]
  repeat (go_big_quiet_step (fail))
  refine wpQuiet_nil ?_
  intro t'
  obtain ⟨W3, hW3⟩ : ∃ W3, WW t' = W3 := ⟨_, rfl⟩
  have HB3 := Lib.hid (show Below W1.heap.size W1 W3 from hW3 ▸ HWH.out t')
  rw [hW3]
  clear z0 z1 hW3 HWH
  have HL := Lib.hid (HDL.out W3 HB3.out)
  clear e0 e1 el
  go_wp2_with fail
  with_reducible refine HL.out.mono ?_
  rintro r w3 ⟨rfl, K3, hg3⟩
  have HG9 := Lib.hid ((((ZkGo.refl HM.out).after HB3.out).next hg3).before HB1.out hsz)
  clear hg3 HL hgc hgl
  go_wp2_with fail
  first | go_end0 | (refine bodyPost_ret (results_none rfl _ _ _) rfl ?_) | fail
  exact ⟨rfl, _, HG9.out⟩
theorem zstrict_17 (n : Int) (ov ot : Option Addr) (lv cvv lt ct : Nat) (rs : List Int) (hct : 2 ≤ rs.length) (ol : Option Addr) (ll cl : Nat) (B base mb : Nat) (K : KV) (X : Nat → Prop) (s : MSt) (d : Int) (W : World) (hm : ZkIn W B base mb K X s) (hi : IntsM W (fun b => SZ mb K b ∨ X b) rs (.slice ol ll cl)) (hn : I64 n) (hroom : Room s 2) (hd : 0 ≤ d ∧ d ≤ 1900000) :
  Calls Tryz.prog 124 #[.pointer (some ⟨mb, 0, none⟩), .agg #[.int .i64 17, .int .i64 n, .slice ov lv cvv, .slice ot lt ct], .int .i64 d, .slice ol ll cl] W fun r w' => r = .returned (.tuple #[]) ∧ ∃ K', ZkGo B base mb K K' X (Mk.strict 17 n d rs s) W w' := by
 obtain ⟨W1, hW1⟩ : ∃ W1, W.alloc (.cells #[.int .i64 17, .int .i64 n, .slice ov lv cvv, .slice ot lt ct] 41) = W1 := ⟨_, rfl⟩
 have HB1 := Lib.hid (show Below W.heap.size W W1 from by rw [← hW1]; exact Below.one W _)
 have HBX := Lib.hid (show BoxL W1 W.heap.size 41 [.int .i64 17, .int .i64 n, .slice ov lv cvv, .slice ot lt ct] from by rw [← hW1]; exact BoxL.new rfl _ _)
 have HM := Lib.hid (hm.keep HB1.out)
 have hsz := hm.size
 have HW := Lib.hid hW1
 have HI1 := Lib.hid (hi.below HB1.out)
 have HN := Lib.hid hn
 have HRO := Lib.hid hroom
 have hcode : s.code.length ≤ 1000000 := by have := hroom.1; omega
 have hdi : I64 d := ⟨by omega, by omega⟩
 have e0 := HBX.out.cell 0 rfl
 have e1 := HBX.out.cell 1 rfl
 have el := HBX.out.lt
 obtain ⟨hll, hlc, hlm⟩ := HI1.out.1.lens
 clear hm hW1 hi hn hroom
 obtain ⟨r0, r1, rl, rfl⟩ : ∃ r0 r1 rl, rs = r0 :: r1 :: rl := by
  match rs, hct with
  | a :: b :: c, _ => exact ⟨a, b, c, rfl⟩
 obtain ⟨gb, goff, hgo, hgb, hgc, hri⟩ := SlC.int (j := 0) HI1.out.1 (x := r0) rfl
 subst hgo
 obtain ⟨gb', goff', hgo, hgb', hgd, hri'⟩ := SlC.int (j := 1) HI1.out.1 (x := r1) rfl
 simp only [Option.some.injEq, Addr.mk.injEq, and_true] at hgo
 obtain ⟨rfl, rfl⟩ := hgo
 have hgl := cell_lt hgc
 rw [Nat.add_zero] at hgc
 simp only [List.length_cons] at hll
 subst hll
 have HRI := Lib.hid hri
 have HRJ := Lib.hid hri'
 clear hri hri'
 go_enter Tryz.func124, Tryz.ntmps124
 go_upto_region 1 with fail
 rw [HW.out]
 go_upto_region 17 with fail
 have HDL := Lib.hid (fun (W3 : World) (hb : Below W1.heap.size W1 W3) => zput_any 12 0 r0 r1 [] none 0 0 W3 (HM.out.keep hb) hcode (by constructor <;> omega) (by constructor <;> omega) HRI.out HRJ.out (IntsM.nil _ _))
 have HD := Lib.hid ((Below.refl W1.heap.size W1).drew)
 refine wp_region_quiet_class (Below W1.heap.size W1) 8 (by kernel_rfl) (by kernel_rfl) HD.out ?_
 intro T0 _ WW HWW HWW2
 have z0 : ∀ t, (WW t).cell? _ = _ := fun t => ((HWW t).cell (p := ⟨gb, goff, none⟩) hgl).trans hgc
 have z1 : ∀ t, (WW t).cell? _ = _ := fun t => ((HWW t).cell (p := ⟨gb, goff + 1, none⟩) hgl).trans hgd
 have HWH := Lib.hid HWW
 clear HWW HWW2
 simp only [List.take_succ_cons, List.take_zero, List.drop_succ_cons, List.drop_zero]
 repeat (go_big_quiet_step (fail))
 refine wpQuiet_nil ?_
 intro t'
 obtain ⟨W3, hW3⟩ : ∃ W3, WW t' = W3 := ⟨_, rfl⟩
 have HB3 := Lib.hid (show Below W1.heap.size W1 W3 from hW3 ▸ HWH.out t')
 rw [hW3]
 clear z0 z1 hW3 HWH
 have HL := Lib.hid (HDL.out W3 HB3.out)
 clear e0 e1 el
 go_wp2_with fail
 with_reducible refine HL.out.mono ?_
 rintro r w3 ⟨rfl, K3, hg3⟩
 have HG3 := Lib.hid (((ZkGo.refl HM.out).after HB3.out).next hg3)
 have HL2 := Lib.hid (zput_any 4 d 0 0 [] none 0 0 w3 HG3.out.inn (by simp only [MSt.put, List.length_append, List.length_singleton]; have := HRO.out.1; omega) (by constructor <;> omega) hdi (by constructor <;> omega) (by constructor <;> omega) (IntsM.nil _ _))
 clear hg3 HL hgc hgl hgd
 go_wp2_with fail
 with_reducible refine HL2.out.mono ?_
 rintro r w4 ⟨rfl, K4, hg4⟩
 have HG9 := Lib.hid ((HG3.out.next hg4).before HB1.out hsz)
 clear hg4 HL2
 go_wp2_with fail
 first | go_end0 | (refine bodyPost_ret (results_none rfl _ _ _) rfl ?_) | fail
 exact ⟨rfl, _, HG9.out⟩
theorem zstrict_18 (n : Int) (ov ot : Option Addr) (lv cvv lt ct : Nat) (rs : List Int) (hct : 2 ≤ rs.length) (ol : Option Addr) (ll cl : Nat) (B base mb : Nat) (K : KV) (X : Nat → Prop) (s : MSt) (d : Int) (W : World) (hm : ZkIn W B base mb K X s) (hi : IntsM W (fun b => SZ mb K b ∨ X b) rs (.slice ol ll cl)) (hn : I64 n) (hroom : Room s 2) (hd : 0 ≤ d ∧ d ≤ 1900000) :
  Calls Tryz.prog 124 #[.pointer (some ⟨mb, 0, none⟩), .agg #[.int .i64 18, .int .i64 n, .slice ov lv cvv, .slice ot lt ct], .int .i64 d, .slice ol ll cl] W fun r w' => r = .returned (.tuple #[]) ∧ ∃ K', ZkGo B base mb K K' X (Mk.strict 18 n d rs s) W w' := by
 obtain ⟨W1, hW1⟩ : ∃ W1, W.alloc (.cells #[.int .i64 18, .int .i64 n, .slice ov lv cvv, .slice ot lt ct] 41) = W1 := ⟨_, rfl⟩
 have HB1 := Lib.hid (show Below W.heap.size W W1 from by rw [← hW1]; exact Below.one W _)
 have HBX := Lib.hid (show BoxL W1 W.heap.size 41 [.int .i64 18, .int .i64 n, .slice ov lv cvv, .slice ot lt ct] from by rw [← hW1]; exact BoxL.new rfl _ _)
 have HM := Lib.hid (hm.keep HB1.out)
 have hsz := hm.size
 have HW := Lib.hid hW1
 have HI1 := Lib.hid (hi.below HB1.out)
 have HN := Lib.hid hn
 have HRO := Lib.hid hroom
 have hcode : s.code.length ≤ 1000000 := by have := hroom.1; omega
 have hdi : I64 d := ⟨by omega, by omega⟩
 have e0 := HBX.out.cell 0 rfl
 have e1 := HBX.out.cell 1 rfl
 have el := HBX.out.lt
 obtain ⟨hll, hlc, hlm⟩ := HI1.out.1.lens
 clear hm hW1 hi hn hroom
 obtain ⟨r0, r1, rl, rfl⟩ : ∃ r0 r1 rl, rs = r0 :: r1 :: rl := by
  match rs, hct with
  | a :: b :: c, _ => exact ⟨a, b, c, rfl⟩
 obtain ⟨gb, goff, hgo, hgb, hgc, hri⟩ := SlC.int (j := 0) HI1.out.1 (x := r0) rfl
 subst hgo
 obtain ⟨gb', goff', hgo, hgb', hgd, hri'⟩ := SlC.int (j := 1) HI1.out.1 (x := r1) rfl
 simp only [Option.some.injEq, Addr.mk.injEq, and_true] at hgo
 obtain ⟨rfl, rfl⟩ := hgo
 have hgl := cell_lt hgc
 rw [Nat.add_zero] at hgc
 simp only [List.length_cons] at hll
 subst hll
 have HRI := Lib.hid hri
 have HRJ := Lib.hid hri'
 clear hri hri'
 go_enter Tryz.func124, Tryz.ntmps124
 go_upto_region 1 with fail
 rw [HW.out]
 go_upto_region 20 with fail
 have HDL := Lib.hid (fun (W3 : World) (hb : Below W1.heap.size W1 W3) => zput_any 13 0 r0 r1 [] none 0 0 W3 (HM.out.keep hb) hcode (by constructor <;> omega) (by constructor <;> omega) HRI.out HRJ.out (IntsM.nil _ _))
 have HD := Lib.hid ((Below.refl W1.heap.size W1).drew)
 refine wp_region_quiet_class (Below W1.heap.size W1) 8 (by kernel_rfl) (by kernel_rfl) HD.out ?_
 intro T0 _ WW HWW HWW2
 have z0 : ∀ t, (WW t).cell? _ = _ := fun t => ((HWW t).cell (p := ⟨gb, goff, none⟩) hgl).trans hgc
 have z1 : ∀ t, (WW t).cell? _ = _ := fun t => ((HWW t).cell (p := ⟨gb, goff + 1, none⟩) hgl).trans hgd
 have HWH := Lib.hid HWW
 clear HWW HWW2
 simp only [List.take_succ_cons, List.take_zero, List.drop_succ_cons, List.drop_zero]
 repeat (go_big_quiet_step (fail))
 refine wpQuiet_nil ?_
 intro t'
 obtain ⟨W3, hW3⟩ : ∃ W3, WW t' = W3 := ⟨_, rfl⟩
 have HB3 := Lib.hid (show Below W1.heap.size W1 W3 from hW3 ▸ HWH.out t')
 rw [hW3]
 clear z0 z1 hW3 HWH
 have HL := Lib.hid (HDL.out W3 HB3.out)
 clear e0 e1 el
 go_wp2_with fail
 with_reducible refine HL.out.mono ?_
 rintro r w3 ⟨rfl, K3, hg3⟩
 have HG3 := Lib.hid (((ZkGo.refl HM.out).after HB3.out).next hg3)
 have HL2 := Lib.hid (zput_any 4 d 0 0 [] none 0 0 w3 HG3.out.inn (by simp only [MSt.put, List.length_append, List.length_singleton]; have := HRO.out.1; omega) (by constructor <;> omega) hdi (by constructor <;> omega) (by constructor <;> omega) (IntsM.nil _ _))
 clear hg3 HL hgc hgl hgd
 go_wp2_with fail
 with_reducible refine HL2.out.mono ?_
 rintro r w4 ⟨rfl, K4, hg4⟩
 have HG9 := Lib.hid ((HG3.out.next hg4).before HB1.out hsz)
 clear hg4 HL2
 go_wp2_with fail
 first | go_end0 | (refine bodyPost_ret (results_none rfl _ _ _) rfl ?_) | fail
 exact ⟨rfl, _, HG9.out⟩
end
end Go.Proofs.YtigkhmppnnljiaaGreatDoor

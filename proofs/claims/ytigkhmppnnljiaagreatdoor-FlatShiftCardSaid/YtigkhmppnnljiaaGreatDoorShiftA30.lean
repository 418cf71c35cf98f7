/-
  What the proofs lean on: MkVal.
-/
import Derived.Test.YtigkhmppnnljiaaGreatDoorShiftA29
namespace Go.Proofs.YtigkhmppnnljiaaGreatDoor
open Go Go.RowKit Mk

/-- All registers but the first. -/
theorem IntsM.rest1 {W : World} {S : Nat → Prop} {r0 : Int} {rl : List Int} {b off : Nat} (h : IntsM W S (r0 :: rl) (.slice (some ⟨b, off, none⟩) (rl.length + 1) 1)) : IntsM W S rl (.slice (some ⟨b, off, none⟩) 0 0) := by
  have hl := h.1.lens.2.1
  obtain rfl : rl = [] := List.eq_nil_of_length_eq_zero (by omega)
  exact ⟨⟨_, 0, 0, rfl, rfl, Nat.le_refl _, by omega, fun h => absurd rfl h, fun i x hx => by simp at hx⟩, fun _ _ h => absurd rfl h⟩
theorem IntsM.rest2 {W : World} {S : Nat → Prop} {r0 : Int} {rl : List Int} {b off cl : Nat} (h : IntsM W S (r0 :: rl) (.slice (some ⟨b, off, none⟩) (rl.length + 1) cl)) (_hc : ¬ cl = 1) : IntsM W S rl (.slice (some ⟨b, off + 1, none⟩) rl.length (cl - 1)) := by
  simpa using IntsM.drops (n := 1) h (by omega)
/-- A term's box. -/
theorem term_box (W : World) (B base mb vb : Nat) (cv : Value) (X : Nat → Prop) (s : MSt) (op n : Int) (v : List Int) (t : List Trm) (c0 c1 c2 c3 : Value) (hv : TrmR W B (.mk op n v t) [c0, c1, c2, c3]) (hm : MkIn W B base mb vb cv X s) (W1 : World) (hW1 : W.alloc (.cells #[c0, c1, c2, c3] 41) = W1) :
    ∃ ov lv cvv ot lt ct, c0 = .int .i64 op ∧ c1 = .int .i64 n ∧ c2 = .slice ov lv cvv ∧ c3 = .slice ot lt ct ∧ I64 n ∧ Hid (BoxL W1 W.heap.size 41 [c0, c1, c2, c3]) ∧ Hid (MkIn W1 B base mb vb cv X s) ∧ Hid (TrmS W1 B t (.slice ot lt ct)) ∧ Hid (SlC W1 B 1 IntR v (.slice ov lv cvv)) ∧ Hid (Below W.heap.size W W1) ∧ lt = t.length ∧ lv = v.length := by
  have HB1 : Below W.heap.size W W1 := by rw [← hW1]; exact Below.one W _
  obtain ⟨vs, ts, he, _, hn, hvs, hts⟩ := trmR_iff.1 hv
  simp only [List.cons.injEq, and_true] at he
  obtain ⟨rfl, rfl, rfl, rfl⟩ := he
  obtain ⟨ov, lv, cvv, rfl⟩ := hvs.form
  obtain ⟨ot, lt, ct, rfl⟩ := hts.form
  have hT : TrmS W1 B t (.slice ot lt ct) := TrmS.kept hts (HB1.mono hm.size)
  have hV : SlC W1 B 1 IntR v (.slice ov lv cvv) := hvs.kept (HB1.mono hm.size) fun _ _ _ h => h
  exact ⟨ov, lv, cvv, ot, lt, ct, rfl, rfl, rfl, rfl, hn, Lib.hid (by rw [← hW1]; exact BoxL.new rfl _ _), Lib.hid (hm.keep HB1), Lib.hid hT, Lib.hid hV, Lib.hid HB1, (SlC.lens hT).1, hV.lens.1⟩

set_option maxHeartbeats 8000000 in
set_option maxRecDepth 100000 in
theorem value_0 (n : Int) (v : List Int) (t : List Trm) (ht : AllC t) (c0 c1 c2 c3 : Value) (B base mb vb : Nat) (cv : Value) (X : Nat → Prop) (s : MSt) (d : Int) (nc nk : Int) (fr : Bool) (sc : Int → Bool) (W : World)
    (hv : TrmR W B (.mk 0 n v t) [c0, c1, c2, c3]) (hm : MkIn W B base mb vb cv X s) (hw : ∀ x ∈ t, Trm.wf nc nk fr x sc = true) (hroom : Room s (2 + 6 * Trm.allL t)) (hd : 0 ≤ d ∧ d ≤ 1900000) :
    Calls Tryz.prog 112 #[.pointer (some ⟨mb, 0, none⟩), .agg #[c0, c1, c2, c3], .int .i64 d] W fun r w' => r = .returned (.tuple #[]) ∧ ∃ cv', MkGo B base mb vb cv cv' X (Mk.strict 0 n d (Mk.allT Mk.lkL t s).1 (Mk.allT Mk.lkL t s).2) W w' := by
  obtain ⟨W1, hW1⟩ : ∃ W1, W.alloc (.cells #[c0, c1, c2, c3] 41) = W1 := ⟨_, rfl⟩
  have hsz := hm.size
  obtain ⟨ov, lv, cvv, ot, lt, ct, rfl, rfl, rfl, rfl, hn, HBX, HM, HT, HV, HB1, hlt, hlv⟩ := term_box W B base mb vb cv X s _ n v t _ _ _ _ hv hm W1 hW1
  have HW := Lib.hid hW1
  have HN := Lib.hid hn
  clear hlt hlv hn
  have HA := Lib.hid (ht (.slice ot lt ct) B base mb vb cv X s nc nk fr sc W1 HT.out HM.out hw (hroom.mono (by omega)))
  have hra := Mk.Room.allT (k := 2) Mk.lkL_ok t s hroom
  have HPL0 := Lib.hid (allT_length Mk.lkL t s)
  obtain ⟨p, hp⟩ : ∃ p, Mk.allT Mk.lkL t s = p := ⟨_, rfl⟩
  rw [hp] at HA hra HPL0
  rw [hp]
  have HRA := Lib.hid hra
  have e0 := HBX.out.cell 0 rfl
  have e1 := HBX.out.cell 1 rfl
  have e3 := HBX.out.cell 3 rfl
  have el := HBX.out.lt
  clear hv hm hW1 hw hroom hra hp ht
  go_enter Tryz.func112, Tryz.ntmps112
  go_upto_region 1 with fail
  rw [HW.out]
  go_wp2_with fail
  refine HA.out.mono ?_
  rintro r w2 ⟨rv, rfl, cv2, hg2, hi2⟩
  have HG2 := Lib.hid hg2
  have HI2 := Lib.hid hi2
  have HBX2 := Lib.hid (HG2.out.box HM.out HBX.out (by decide) (by decide))
  obtain ⟨ol, ll, cl, rfl⟩ := hi2.1.form
  obtain ⟨hll, hlc, hlm⟩ := hi2.1.lens
  have HLL := Lib.hid hll
  clear hll
  have hcode : p.2.code.length ≤ 1000000 := by have := HRA.out.1.1; omega
  have hdi : I64 d := ⟨by omega, by omega⟩
  clear hg2 hi2 e0 e1 e3 el HA
  have e0 := HBX2.out.cell 0 rfl
  have e1 := HBX2.out.cell 1 rfl
  have el := HBX2.out.lt
  have HL := Lib.hid (lay_void 0 d n 0 [] none 0 0 w2 HG2.out.inn hcode (by constructor <;> omega) hdi HN.out (by constructor <;> omega) (IntsM.nil _ _))
  go_wp2_with fail
  with_reducible refine HL.out.mono ?_
  rintro r w3 ⟨fv, rfl, cv3, hg3⟩
  have HG9 := Lib.hid ((HG2.out.next hg3).before HB1.out hsz)
  clear hg3 HL e0 e1 el
  go_wp2_with fail
  first | go_end0 | (refine bodyPost_ret (results_none rfl _ _ _) rfl ?_)
  exact ⟨rfl, _, HG9.out⟩
set_option maxHeartbeats 8000000 in
set_option maxRecDepth 100000 in
theorem value_11 (n : Int) (v : List Int) (t : List Trm) (ht : AllC t) (c0 c1 c2 c3 : Value) (B base mb vb : Nat) (cv : Value) (X : Nat → Prop) (s : MSt) (d : Int) (nc nk : Int) (fr : Bool) (sc : Int → Bool) (W : World)
    (hv : TrmR W B (.mk 11 n v t) [c0, c1, c2, c3]) (hm : MkIn W B base mb vb cv X s) (hw : ∀ x ∈ t, Trm.wf nc nk fr x sc = true) (hroom : Room s (2 + 6 * Trm.allL t)) (hd : 0 ≤ d ∧ d ≤ 1900000) :
    Calls Tryz.prog 112 #[.pointer (some ⟨mb, 0, none⟩), .agg #[c0, c1, c2, c3], .int .i64 d] W fun r w' => r = .returned (.tuple #[]) ∧ ∃ cv', MkGo B base mb vb cv cv' X (Mk.strict 11 n d (Mk.allT Mk.lkL t s).1 (Mk.allT Mk.lkL t s).2) W w' := by
  obtain ⟨W1, hW1⟩ : ∃ W1, W.alloc (.cells #[c0, c1, c2, c3] 41) = W1 := ⟨_, rfl⟩
  have hsz := hm.size
  obtain ⟨ov, lv, cvv, ot, lt, ct, rfl, rfl, rfl, rfl, hn, HBX, HM, HT, HV, HB1, hlt, hlv⟩ := term_box W B base mb vb cv X s _ n v t _ _ _ _ hv hm W1 hW1
  have HW := Lib.hid hW1
  have HN := Lib.hid hn
  clear hlt hlv hn
  have HA := Lib.hid (ht (.slice ot lt ct) B base mb vb cv X s nc nk fr sc W1 HT.out HM.out hw (hroom.mono (by omega)))
  have hra := Mk.Room.allT (k := 2) Mk.lkL_ok t s hroom
  have HPL0 := Lib.hid (allT_length Mk.lkL t s)
  obtain ⟨p, hp⟩ : ∃ p, Mk.allT Mk.lkL t s = p := ⟨_, rfl⟩
  rw [hp] at HA hra HPL0
  rw [hp]
  have HRA := Lib.hid hra
  have e0 := HBX.out.cell 0 rfl
  have e1 := HBX.out.cell 1 rfl
  have e3 := HBX.out.cell 3 rfl
  have el := HBX.out.lt
  clear hv hm hW1 hw hroom hra hp ht
  go_enter Tryz.func112, Tryz.ntmps112
  go_upto_region 1 with fail
  rw [HW.out]
  go_wp2_with fail
  refine HA.out.mono ?_
  rintro r w2 ⟨rv, rfl, cv2, hg2, hi2⟩
  have HG2 := Lib.hid hg2
  have HI2 := Lib.hid hi2
  have HBX2 := Lib.hid (HG2.out.box HM.out HBX.out (by decide) (by decide))
  obtain ⟨ol, ll, cl, rfl⟩ := hi2.1.form
  obtain ⟨hll, hlc, hlm⟩ := hi2.1.lens
  have HLL := Lib.hid hll
  clear hll
  have hcode : p.2.code.length ≤ 1000000 := by have := HRA.out.1.1; omega
  have hdi : I64 d := ⟨by omega, by omega⟩
  clear hg2 hi2 e0 e1 e3 el HA
  have e0 := HBX2.out.cell 0 rfl
  have e1 := HBX2.out.cell 1 rfl
  have el := HBX2.out.lt
  have HL := Lib.hid (lay_void 2 d n 0 [] none 0 0 w2 HG2.out.inn hcode (by constructor <;> omega) hdi HN.out (by constructor <;> omega) (IntsM.nil _ _))
  go_wp2_with fail
  with_reducible refine HL.out.mono ?_
  rintro r w3 ⟨fv, rfl, cv3, hg3⟩
  have HG9 := Lib.hid ((HG2.out.next hg3).before HB1.out hsz)
  clear hg3 HL e0 e1 el
  go_wp2_with fail
  first | go_end0 | (refine bodyPost_ret (results_none rfl _ _ _) rfl ?_)
  exact ⟨rfl, _, HG9.out⟩
set_option maxHeartbeats 8000000 in
set_option maxRecDepth 100000 in
theorem value_13 (n : Int) (v : List Int) (t : List Trm) (ht : AllC t) (c0 c1 c2 c3 : Value) (B base mb vb : Nat) (cv : Value) (X : Nat → Prop) (s : MSt) (d : Int) (nc nk : Int) (fr : Bool) (sc : Int → Bool) (W : World)
    (hv : TrmR W B (.mk 13 n v t) [c0, c1, c2, c3]) (hm : MkIn W B base mb vb cv X s) (hw : ∀ x ∈ t, Trm.wf nc nk fr x sc = true) (hroom : Room s (2 + 6 * Trm.allL t)) (hd : 0 ≤ d ∧ d ≤ 1900000) :
    Calls Tryz.prog 112 #[.pointer (some ⟨mb, 0, none⟩), .agg #[c0, c1, c2, c3], .int .i64 d] W fun r w' => r = .returned (.tuple #[]) ∧ ∃ cv', MkGo B base mb vb cv cv' X (Mk.strict 13 n d (Mk.allT Mk.lkL t s).1 (Mk.allT Mk.lkL t s).2) W w' := by
  obtain ⟨W1, hW1⟩ : ∃ W1, W.alloc (.cells #[c0, c1, c2, c3] 41) = W1 := ⟨_, rfl⟩
  have hsz := hm.size
  obtain ⟨ov, lv, cvv, ot, lt, ct, rfl, rfl, rfl, rfl, hn, HBX, HM, HT, HV, HB1, hlt, hlv⟩ := term_box W B base mb vb cv X s _ n v t _ _ _ _ hv hm W1 hW1
  have HW := Lib.hid hW1
  have HN := Lib.hid hn
  clear hlt hlv hn
  have HA := Lib.hid (ht (.slice ot lt ct) B base mb vb cv X s nc nk fr sc W1 HT.out HM.out hw (hroom.mono (by omega)))
  have hra := Mk.Room.allT (k := 2) Mk.lkL_ok t s hroom
  have HPL0 := Lib.hid (allT_length Mk.lkL t s)
  obtain ⟨p, hp⟩ : ∃ p, Mk.allT Mk.lkL t s = p := ⟨_, rfl⟩
  rw [hp] at HA hra HPL0
  rw [hp]
  have HRA := Lib.hid hra
  have e0 := HBX.out.cell 0 rfl
  have e1 := HBX.out.cell 1 rfl
  have e3 := HBX.out.cell 3 rfl
  have el := HBX.out.lt
  clear hv hm hW1 hw hroom hra hp ht
  go_enter Tryz.func112, Tryz.ntmps112
  go_upto_region 1 with fail
  rw [HW.out]
  go_wp2_with fail
  refine HA.out.mono ?_
  rintro r w2 ⟨rv, rfl, cv2, hg2, hi2⟩
  have HG2 := Lib.hid hg2
  have HI2 := Lib.hid hi2
  have HBX2 := Lib.hid (HG2.out.box HM.out HBX.out (by decide) (by decide))
  obtain ⟨ol, ll, cl, rfl⟩ := hi2.1.form
  obtain ⟨hll, hlc, hlm⟩ := hi2.1.lens
  have HLL := Lib.hid hll
  clear hll
  have hcode : p.2.code.length ≤ 1000000 := by have := HRA.out.1.1; omega
  have hdi : I64 d := ⟨by omega, by omega⟩
  clear hg2 hi2 e0 e1 e3 el HA
  have e0 := HBX2.out.cell 0 rfl
  have e1 := HBX2.out.cell 1 rfl
  have el := HBX2.out.lt
  have HL := Lib.hid (lay_void 3 d 0 0 [] none 0 0 w2 HG2.out.inn hcode (by constructor <;> omega) hdi (by constructor <;> omega) (by constructor <;> omega) (IntsM.nil _ _))
  go_wp2_with fail
  with_reducible refine HL.out.mono ?_
  rintro r w3 ⟨fv, rfl, cv3, hg3⟩
  have HG9 := Lib.hid ((HG2.out.next hg3).before HB1.out hsz)
  clear hg3 HL e0 e1 el
  go_wp2_with fail
  first | go_end0 | (refine bodyPost_ret (results_none rfl _ _ _) rfl ?_)
  exact ⟨rfl, _, HG9.out⟩
set_option maxHeartbeats 8000000 in
set_option maxRecDepth 100000 in
theorem value_21 (n : Int) (v : List Int) (t : List Trm) (ht : AllC t) (c0 c1 c2 c3 : Value) (B base mb vb : Nat) (cv : Value) (X : Nat → Prop) (s : MSt) (d : Int) (nc nk : Int) (fr : Bool) (sc : Int → Bool) (W : World)
    (hv : TrmR W B (.mk 21 n v t) [c0, c1, c2, c3]) (hm : MkIn W B base mb vb cv X s) (hw : ∀ x ∈ t, Trm.wf nc nk fr x sc = true) (hroom : Room s (2 + 6 * Trm.allL t)) (hd : 0 ≤ d ∧ d ≤ 1900000) :
    Calls Tryz.prog 112 #[.pointer (some ⟨mb, 0, none⟩), .agg #[c0, c1, c2, c3], .int .i64 d] W fun r w' => r = .returned (.tuple #[]) ∧ ∃ cv', MkGo B base mb vb cv cv' X (Mk.strict 21 n d (Mk.allT Mk.lkL t s).1 (Mk.allT Mk.lkL t s).2) W w' := by
  obtain ⟨W1, hW1⟩ : ∃ W1, W.alloc (.cells #[c0, c1, c2, c3] 41) = W1 := ⟨_, rfl⟩
  have hsz := hm.size
  obtain ⟨ov, lv, cvv, ot, lt, ct, rfl, rfl, rfl, rfl, hn, HBX, HM, HT, HV, HB1, hlt, hlv⟩ := term_box W B base mb vb cv X s _ n v t _ _ _ _ hv hm W1 hW1
  have HW := Lib.hid hW1
  have HN := Lib.hid hn
  clear hlt hlv hn
  have HA := Lib.hid (ht (.slice ot lt ct) B base mb vb cv X s nc nk fr sc W1 HT.out HM.out hw (hroom.mono (by omega)))
  have hra := Mk.Room.allT (k := 2) Mk.lkL_ok t s hroom
  have HPL0 := Lib.hid (allT_length Mk.lkL t s)
  obtain ⟨p, hp⟩ : ∃ p, Mk.allT Mk.lkL t s = p := ⟨_, rfl⟩
  rw [hp] at HA hra HPL0
  rw [hp]
  have HRA := Lib.hid hra
  have e0 := HBX.out.cell 0 rfl
  have e1 := HBX.out.cell 1 rfl
  have e3 := HBX.out.cell 3 rfl
  have el := HBX.out.lt
  clear hv hm hW1 hw hroom hra hp ht
  go_enter Tryz.func112, Tryz.ntmps112
  go_upto_region 1 with fail
  rw [HW.out]
  go_wp2_with fail
  refine HA.out.mono ?_
  rintro r w2 ⟨rv, rfl, cv2, hg2, hi2⟩
  have HG2 := Lib.hid hg2
  have HI2 := Lib.hid hi2
  have HBX2 := Lib.hid (HG2.out.box HM.out HBX.out (by decide) (by decide))
  obtain ⟨ol, ll, cl, rfl⟩ := hi2.1.form
  obtain ⟨hll, hlc, hlm⟩ := hi2.1.lens
  have HLL := Lib.hid hll
  clear hll
  have hcode : p.2.code.length ≤ 1000000 := by have := HRA.out.1.1; omega
  have hdi : I64 d := ⟨by omega, by omega⟩
  clear hg2 hi2 e0 e1 e3 el HA
  have e0 := HBX2.out.cell 0 rfl
  have e1 := HBX2.out.cell 1 rfl
  have el := HBX2.out.lt
  have HL := Lib.hid (lay_void 5 d n 0 [] none 0 0 w2 HG2.out.inn hcode (by constructor <;> omega) hdi HN.out (by constructor <;> omega) (IntsM.nil _ _))
  go_wp2_with fail
  with_reducible refine HL.out.mono ?_
  rintro r w3 ⟨fv, rfl, cv3, hg3⟩
  have HG9 := Lib.hid ((HG2.out.next hg3).before HB1.out hsz)
  clear hg3 HL e0 e1 el
  go_wp2_with fail
  first | go_end0 | (refine bodyPost_ret (results_none rfl _ _ _) rfl ?_)
  exact ⟨rfl, _, HG9.out⟩
set_option maxHeartbeats 8000000 in
set_option maxRecDepth 100000 in
theorem value_20 (n : Int) (v : List Int) (t : List Trm) (ht : AllC t) (c0 c1 c2 c3 : Value) (B base mb vb : Nat) (cv : Value) (X : Nat → Prop) (s : MSt) (d : Int) (nc nk : Int) (fr : Bool) (sc : Int → Bool) (W : World)
    (hv : TrmR W B (.mk 20 n v t) [c0, c1, c2, c3]) (hm : MkIn W B base mb vb cv X s) (hw : ∀ x ∈ t, Trm.wf nc nk fr x sc = true) (hroom : Room s (2 + 6 * Trm.allL t)) (hd : 0 ≤ d ∧ d ≤ 1900000) :
    Calls Tryz.prog 112 #[.pointer (some ⟨mb, 0, none⟩), .agg #[c0, c1, c2, c3], .int .i64 d] W fun r w' => r = .returned (.tuple #[]) ∧ ∃ cv', MkGo B base mb vb cv cv' X (Mk.strict 20 n d (Mk.allT Mk.lkL t s).1 (Mk.allT Mk.lkL t s).2) W w' := by
  obtain ⟨W1, hW1⟩ : ∃ W1, W.alloc (.cells #[c0, c1, c2, c3] 41) = W1 := ⟨_, rfl⟩
  have hsz := hm.size
  obtain ⟨ov, lv, cvv, ot, lt, ct, rfl, rfl, rfl, rfl, hn, HBX, HM, HT, HV, HB1, hlt, hlv⟩ := term_box W B base mb vb cv X s _ n v t _ _ _ _ hv hm W1 hW1
  have HW := Lib.hid hW1
  have HN := Lib.hid hn
  clear hlt hlv hn
  have HA := Lib.hid (ht (.slice ot lt ct) B base mb vb cv X s nc nk fr sc W1 HT.out HM.out hw (hroom.mono (by omega)))
  have hra := Mk.Room.allT (k := 2) Mk.lkL_ok t s hroom
  have HPL0 := Lib.hid (allT_length Mk.lkL t s)
  obtain ⟨p, hp⟩ : ∃ p, Mk.allT Mk.lkL t s = p := ⟨_, rfl⟩
  rw [hp] at HA hra HPL0
  rw [hp]
  have HRA := Lib.hid hra
  have e0 := HBX.out.cell 0 rfl
  have e1 := HBX.out.cell 1 rfl
  have e3 := HBX.out.cell 3 rfl
  have el := HBX.out.lt
  clear hv hm hW1 hw hroom hra hp ht
  go_enter Tryz.func112, Tryz.ntmps112
  go_upto_region 1 with fail
  rw [HW.out]
  go_wp2_with fail
  refine HA.out.mono ?_
  rintro r w2 ⟨rv, rfl, cv2, hg2, hi2⟩
  have HG2 := Lib.hid hg2
  have HI2 := Lib.hid hi2
  have HBX2 := Lib.hid (HG2.out.box HM.out HBX.out (by decide) (by decide))
  obtain ⟨ol, ll, cl, rfl⟩ := hi2.1.form
  obtain ⟨hll, hlc, hlm⟩ := hi2.1.lens
  have HLL := Lib.hid hll
  clear hll
  have hcode : p.2.code.length ≤ 1000000 := by have := HRA.out.1.1; omega
  have hdi : I64 d := ⟨by omega, by omega⟩
  clear hg2 hi2 e0 e1 e3 el HA
  have e0 := HBX2.out.cell 0 rfl
  have e1 := HBX2.out.cell 1 rfl
  have el := HBX2.out.lt
  have HL := Lib.hid (lay_void 6 d n 0 [] none 0 0 w2 HG2.out.inn hcode (by constructor <;> omega) hdi HN.out (by constructor <;> omega) (IntsM.nil _ _))
  go_wp2_with fail
  with_reducible refine HL.out.mono ?_
  rintro r w3 ⟨fv, rfl, cv3, hg3⟩
  have HG9 := Lib.hid ((HG2.out.next hg3).before HB1.out hsz)
  clear hg3 HL e0 e1 el
  go_wp2_with fail
  first | go_end0 | (refine bodyPost_ret (results_none rfl _ _ _) rfl ?_)
  exact ⟨rfl, _, HG9.out⟩
set_option maxHeartbeats 8000000 in
set_option maxRecDepth 100000 in
theorem value_10 (n : Int) (v : List Int) (t : List Trm) (ht : AllC t) (c0 c1 c2 c3 : Value) (B base mb vb : Nat) (cv : Value) (X : Nat → Prop) (s : MSt) (d : Int) (nc nk : Int) (fr : Bool) (sc : Int → Bool) (W : World)
    (hv : TrmR W B (.mk 10 n v t) [c0, c1, c2, c3]) (hm : MkIn W B base mb vb cv X s) (hw : ∀ x ∈ t, Trm.wf nc nk fr x sc = true) (hroom : Room s (2 + 6 * Trm.allL t)) (hd : 0 ≤ d ∧ d ≤ 1900000) :
    Calls Tryz.prog 112 #[.pointer (some ⟨mb, 0, none⟩), .agg #[c0, c1, c2, c3], .int .i64 d] W fun r w' => r = .returned (.tuple #[]) ∧ ∃ cv', MkGo B base mb vb cv cv' X (Mk.strict 10 n d (Mk.allT Mk.lkL t s).1 (Mk.allT Mk.lkL t s).2) W w' := by
  obtain ⟨W1, hW1⟩ : ∃ W1, W.alloc (.cells #[c0, c1, c2, c3] 41) = W1 := ⟨_, rfl⟩
  have hsz := hm.size
  obtain ⟨ov, lv, cvv, ot, lt, ct, rfl, rfl, rfl, rfl, hn, HBX, HM, HT, HV, HB1, hlt, hlv⟩ := term_box W B base mb vb cv X s _ n v t _ _ _ _ hv hm W1 hW1
  have HW := Lib.hid hW1
  have HN := Lib.hid hn
  clear hlt hlv hn
  have HA := Lib.hid (ht (.slice ot lt ct) B base mb vb cv X s nc nk fr sc W1 HT.out HM.out hw (hroom.mono (by omega)))
  have hra := Mk.Room.allT (k := 2) Mk.lkL_ok t s hroom
  have HPL0 := Lib.hid (allT_length Mk.lkL t s)
  obtain ⟨p, hp⟩ : ∃ p, Mk.allT Mk.lkL t s = p := ⟨_, rfl⟩
  rw [hp] at HA hra HPL0
  rw [hp]
  have HRA := Lib.hid hra
  have e0 := HBX.out.cell 0 rfl
  have e1 := HBX.out.cell 1 rfl
  have e3 := HBX.out.cell 3 rfl
  have el := HBX.out.lt
  clear hv hm hW1 hw hroom hra hp ht
  go_enter Tryz.func112, Tryz.ntmps112
  go_upto_region 1 with fail
  rw [HW.out]
  go_wp2_with fail
  refine HA.out.mono ?_
  rintro r w2 ⟨rv, rfl, cv2, hg2, hi2⟩
  have HG2 := Lib.hid hg2
  have HI2 := Lib.hid hi2
  have HBX2 := Lib.hid (HG2.out.box HM.out HBX.out (by decide) (by decide))
  obtain ⟨ol, ll, cl, rfl⟩ := hi2.1.form
  obtain ⟨hll, hlc, hlm⟩ := hi2.1.lens
  have HLL := Lib.hid hll
  clear hll
  have hcode : p.2.code.length ≤ 1000000 := by have := HRA.out.1.1; omega
  have hdi : I64 d := ⟨by omega, by omega⟩
  clear hg2 hi2 e0 e1 e3 el HA
  have e0 := HBX2.out.cell 0 rfl
  have e1 := HBX2.out.cell 1 rfl
  have el := HBX2.out.lt
  have HL := Lib.hid (lay_void 9 d n 0 p.1 ol ll cl w2 HG2.out.inn hcode (by constructor <;> omega) hdi HN.out (by constructor <;> omega) HI2.out)
  go_wp2_with fail
  with_reducible refine HL.out.mono ?_
  rintro r w3 ⟨fv, rfl, cv3, hg3⟩
  have HG9 := Lib.hid ((HG2.out.next hg3).before HB1.out hsz)
  clear hg3 HL e0 e1 el
  go_wp2_with fail
  first | go_end0 | (refine bodyPost_ret (results_none rfl _ _ _) rfl ?_)
  exact ⟨rfl, _, HG9.out⟩
set_option maxHeartbeats 8000000 in
set_option maxRecDepth 100000 in
theorem value_19 (n : Int) (v : List Int) (t : List Trm) (ht : AllC t) (c0 c1 c2 c3 : Value) (B base mb vb : Nat) (cv : Value) (X : Nat → Prop) (s : MSt) (d : Int) (nc nk : Int) (fr : Bool) (sc : Int → Bool) (W : World)
    (hv : TrmR W B (.mk 19 n v t) [c0, c1, c2, c3]) (hm : MkIn W B base mb vb cv X s) (hw : ∀ x ∈ t, Trm.wf nc nk fr x sc = true) (hroom : Room s (2 + 6 * Trm.allL t)) (hd : 0 ≤ d ∧ d ≤ 1900000) :
    Calls Tryz.prog 112 #[.pointer (some ⟨mb, 0, none⟩), .agg #[c0, c1, c2, c3], .int .i64 d] W fun r w' => r = .returned (.tuple #[]) ∧ ∃ cv', MkGo B base mb vb cv cv' X (Mk.strict 19 n d (Mk.allT Mk.lkL t s).1 (Mk.allT Mk.lkL t s).2) W w' := by
  obtain ⟨W1, hW1⟩ : ∃ W1, W.alloc (.cells #[c0, c1, c2, c3] 41) = W1 := ⟨_, rfl⟩
  have hsz := hm.size
  obtain ⟨ov, lv, cvv, ot, lt, ct, rfl, rfl, rfl, rfl, hn, HBX, HM, HT, HV, HB1, hlt, hlv⟩ := term_box W B base mb vb cv X s _ n v t _ _ _ _ hv hm W1 hW1
  have HW := Lib.hid hW1
  have HN := Lib.hid hn
  clear hlt hlv hn
  have HA := Lib.hid (ht (.slice ot lt ct) B base mb vb cv X s nc nk fr sc W1 HT.out HM.out hw (hroom.mono (by omega)))
  have hra := Mk.Room.allT (k := 2) Mk.lkL_ok t s hroom
  have HPL0 := Lib.hid (allT_length Mk.lkL t s)
  obtain ⟨p, hp⟩ : ∃ p, Mk.allT Mk.lkL t s = p := ⟨_, rfl⟩
  rw [hp] at HA hra HPL0
  rw [hp]
  have HRA := Lib.hid hra
  have e0 := HBX.out.cell 0 rfl
  have e1 := HBX.out.cell 1 rfl
  have e3 := HBX.out.cell 3 rfl
  have el := HBX.out.lt
  clear hv hm hW1 hw hroom hra hp ht
  go_enter Tryz.func112, Tryz.ntmps112
  go_upto_region 1 with fail
  rw [HW.out]
  go_wp2_with fail
  refine HA.out.mono ?_
  rintro r w2 ⟨rv, rfl, cv2, hg2, hi2⟩
  have HG2 := Lib.hid hg2
  have HI2 := Lib.hid hi2
  have HBX2 := Lib.hid (HG2.out.box HM.out HBX.out (by decide) (by decide))
  obtain ⟨ol, ll, cl, rfl⟩ := hi2.1.form
  obtain ⟨hll, hlc, hlm⟩ := hi2.1.lens
  have HLL := Lib.hid hll
  clear hll
  have hcode : p.2.code.length ≤ 1000000 := by have := HRA.out.1.1; omega
  have hdi : I64 d := ⟨by omega, by omega⟩
  clear hg2 hi2 e0 e1 e3 el HA
  have e0 := HBX2.out.cell 0 rfl
  have e1 := HBX2.out.cell 1 rfl
  have el := HBX2.out.lt
  have HL := Lib.hid (lay_void 7 d n 0 p.1 ol ll cl w2 HG2.out.inn hcode (by constructor <;> omega) hdi HN.out (by constructor <;> omega) HI2.out)
  go_wp2_with fail
  with_reducible refine HL.out.mono ?_
  rintro r w3 ⟨fv, rfl, cv3, hg3⟩
  have HG9 := Lib.hid ((HG2.out.next hg3).before HB1.out hsz)
  clear hg3 HL e0 e1 el
  go_wp2_with fail
  first | go_end0 | (refine bodyPost_ret (results_none rfl _ _ _) rfl ?_)
  exact ⟨rfl, _, HG9.out⟩
set_option maxHeartbeats 8000000 in
set_option maxRecDepth 100000 in
theorem value_12 (n : Int) (v : List Int) (t : List Trm) (ht : AllC t) (hct : 1 ≤ t.length) (c0 c1 c2 c3 : Value) (B base mb vb : Nat) (cv : Value) (X : Nat → Prop) (s : MSt) (d : Int) (nc nk : Int) (fr : Bool) (sc : Int → Bool) (W : World)
    (hv : TrmR W B (.mk 12 n v t) [c0, c1, c2, c3]) (hm : MkIn W B base mb vb cv X s) (hw : ∀ x ∈ t, Trm.wf nc nk fr x sc = true) (hroom : Room s (2 + 6 * Trm.allL t)) (hd : 0 ≤ d ∧ d ≤ 1900000) :
    Calls Tryz.prog 112 #[.pointer (some ⟨mb, 0, none⟩), .agg #[c0, c1, c2, c3], .int .i64 d] W fun r w' => r = .returned (.tuple #[]) ∧ ∃ cv', MkGo B base mb vb cv cv' X (Mk.strict 12 n d (Mk.allT Mk.lkL t s).1 (Mk.allT Mk.lkL t s).2) W w' := by
  obtain ⟨W1, hW1⟩ : ∃ W1, W.alloc (.cells #[c0, c1, c2, c3] 41) = W1 := ⟨_, rfl⟩
  have hsz := hm.size
  obtain ⟨ov, lv, cvv, ot, lt, ct, rfl, rfl, rfl, rfl, hn, HBX, HM, HT, HV, HB1, hlt, hlv⟩ := term_box W B base mb vb cv X s _ n v t _ _ _ _ hv hm W1 hW1
  have HW := Lib.hid hW1
  have HN := Lib.hid hn
  clear hlt hlv hn
  have HA := Lib.hid (ht (.slice ot lt ct) B base mb vb cv X s nc nk fr sc W1 HT.out HM.out hw (hroom.mono (by omega)))
  have hra := Mk.Room.allT (k := 2) Mk.lkL_ok t s hroom
  have HPL0 := Lib.hid (allT_length Mk.lkL t s)
  obtain ⟨p, hp⟩ : ∃ p, Mk.allT Mk.lkL t s = p := ⟨_, rfl⟩
  rw [hp] at HA hra HPL0
  rw [hp]
  have HRA := Lib.hid hra
  have e0 := HBX.out.cell 0 rfl
  have e1 := HBX.out.cell 1 rfl
  have e3 := HBX.out.cell 3 rfl
  have el := HBX.out.lt
  clear hv hm hW1 hw hroom hra hp ht
  go_enter Tryz.func112, Tryz.ntmps112
  go_upto_region 1 with fail
  rw [HW.out]
  go_wp2_with fail
  refine HA.out.mono ?_
  rintro r w2 ⟨rv, rfl, cv2, hg2, hi2⟩
  have HG2 := Lib.hid hg2
  have HI2 := Lib.hid hi2
  have HBX2 := Lib.hid (HG2.out.box HM.out HBX.out (by decide) (by decide))
  obtain ⟨ol, ll, cl, rfl⟩ := hi2.1.form
  obtain ⟨hll, hlc, hlm⟩ := hi2.1.lens
  have HLL := Lib.hid hll
  clear hll
  have hcode : p.2.code.length ≤ 1000000 := by have := HRA.out.1.1; omega
  have hdi : I64 d := ⟨by omega, by omega⟩
  clear hg2 hi2 e0 e1 e3 el HA
  have e0 := HBX2.out.cell 0 rfl
  have e1 := HBX2.out.cell 1 rfl
  have el := HBX2.out.lt
  have hll := HLL.out
  have hpl := HPL0.out
  obtain ⟨r0, rl, hpe⟩ : ∃ r0 rl, p.1 = r0 :: rl := by
    cases h : p.1 with
    | nil => rw [h] at hpl; simp at hpl; omega
    | cons a b => exact ⟨a, b, rfl⟩
  obtain ⟨gb, goff, hgo, hgb, hgc, hri⟩ := SlC.int (j := 0) HI2.out.1 (x := r0) (by rw [hpe]; rfl)
  subst hgo
  have hgl := cell_lt hgc
  rw [Nat.add_zero] at hgc
  rw [hpe] at HI2 hll
  simp only [List.length_cons] at hll
  subst hll
  have HRI := Lib.hid hri
  have HPE := Lib.hid hpe
  clear hpl hpe
  have HL := Lib.hid (lay_void 14 d r0 0 [] none 0 0 w2 HG2.out.inn hcode (by constructor <;> omega) hdi hri (by constructor <;> omega) (IntsM.nil _ _))
  clear hri
  go_wp2_with fail
  with_reducible refine HL.out.mono ?_
  rintro r w3 ⟨fv, rfl, cv3, hg3⟩
  have HG9 := Lib.hid ((HG2.out.next hg3).before HB1.out hsz)
  have hfin : Mk.strict 12 n d p.1 p.2 = p.2.put ⟨14, d, r0, 0, []⟩ := by rw [HPE.out]; rfl
  have HFIN := Lib.hid hfin
  clear hfin hg3 HL e0 e1 el hgc hgl
  go_wp2_with fail
  first | go_end0 | (refine bodyPost_ret (results_none rfl _ _ _) rfl ?_)
  exact ⟨rfl, _, by rw [HFIN.out]; exact HG9.out⟩
set_option maxHeartbeats 8000000 in
set_option maxRecDepth 100000 in
theorem value_15 (n : Int) (v : List Int) (t : List Trm) (ht : AllC t) (hct : 1 ≤ t.length) (c0 c1 c2 c3 : Value) (B base mb vb : Nat) (cv : Value) (X : Nat → Prop) (s : MSt) (d : Int) (nc nk : Int) (fr : Bool) (sc : Int → Bool) (W : World)
    (hv : TrmR W B (.mk 15 n v t) [c0, c1, c2, c3]) (hm : MkIn W B base mb vb cv X s) (hw : ∀ x ∈ t, Trm.wf nc nk fr x sc = true) (hroom : Room s (2 + 6 * Trm.allL t)) (hd : 0 ≤ d ∧ d ≤ 1900000) :
    Calls Tryz.prog 112 #[.pointer (some ⟨mb, 0, none⟩), .agg #[c0, c1, c2, c3], .int .i64 d] W fun r w' => r = .returned (.tuple #[]) ∧ ∃ cv', MkGo B base mb vb cv cv' X (Mk.strict 15 n d (Mk.allT Mk.lkL t s).1 (Mk.allT Mk.lkL t s).2) W w' := by
  obtain ⟨W1, hW1⟩ : ∃ W1, W.alloc (.cells #[c0, c1, c2, c3] 41) = W1 := ⟨_, rfl⟩
  have hsz := hm.size
  obtain ⟨ov, lv, cvv, ot, lt, ct, rfl, rfl, rfl, rfl, hn, HBX, HM, HT, HV, HB1, hlt, hlv⟩ := term_box W B base mb vb cv X s _ n v t _ _ _ _ hv hm W1 hW1
  have HW := Lib.hid hW1
  have HN := Lib.hid hn
  clear hlt hlv hn
  have HA := Lib.hid (ht (.slice ot lt ct) B base mb vb cv X s nc nk fr sc W1 HT.out HM.out hw (hroom.mono (by omega)))
  have hra := Mk.Room.allT (k := 2) Mk.lkL_ok t s hroom
  have HPL0 := Lib.hid (allT_length Mk.lkL t s)
  obtain ⟨p, hp⟩ : ∃ p, Mk.allT Mk.lkL t s = p := ⟨_, rfl⟩
  rw [hp] at HA hra HPL0
  rw [hp]
  have HRA := Lib.hid hra
  have e0 := HBX.out.cell 0 rfl
  have e1 := HBX.out.cell 1 rfl
  have e3 := HBX.out.cell 3 rfl
  have el := HBX.out.lt
  clear hv hm hW1 hw hroom hra hp ht
  go_enter Tryz.func112, Tryz.ntmps112
  go_upto_region 1 with fail
  rw [HW.out]
  go_wp2_with fail
  refine HA.out.mono ?_
  rintro r w2 ⟨rv, rfl, cv2, hg2, hi2⟩
  have HG2 := Lib.hid hg2
  have HI2 := Lib.hid hi2
  have HBX2 := Lib.hid (HG2.out.box HM.out HBX.out (by decide) (by decide))
  obtain ⟨ol, ll, cl, rfl⟩ := hi2.1.form
  obtain ⟨hll, hlc, hlm⟩ := hi2.1.lens
  have HLL := Lib.hid hll
  clear hll
  have hcode : p.2.code.length ≤ 1000000 := by have := HRA.out.1.1; omega
  have hdi : I64 d := ⟨by omega, by omega⟩
  clear hg2 hi2 e0 e1 e3 el HA
  have e0 := HBX2.out.cell 0 rfl
  have e1 := HBX2.out.cell 1 rfl
  have el := HBX2.out.lt
  have hll := HLL.out
  have hpl := HPL0.out
  obtain ⟨r0, rl, hpe⟩ : ∃ r0 rl, p.1 = r0 :: rl := by
    cases h : p.1 with
    | nil => rw [h] at hpl; simp at hpl; omega
    | cons a b => exact ⟨a, b, rfl⟩
  obtain ⟨gb, goff, hgo, hgb, hgc, hri⟩ := SlC.int (j := 0) HI2.out.1 (x := r0) (by rw [hpe]; rfl)
  subst hgo
  have hgl := cell_lt hgc
  rw [Nat.add_zero] at hgc
  rw [hpe] at HI2 hll
  simp only [List.length_cons] at hll
  subst hll
  have HRI := Lib.hid hri
  have HPE := Lib.hid hpe
  clear hpl hpe
  have HL := Lib.hid (lay_void 10 d r0 0 [] none 0 0 w2 HG2.out.inn hcode (by constructor <;> omega) hdi hri (by constructor <;> omega) (IntsM.nil _ _))
  clear hri
  go_wp2_with fail
  with_reducible refine HL.out.mono ?_
  rintro r w3 ⟨fv, rfl, cv3, hg3⟩
  have HG9 := Lib.hid ((HG2.out.next hg3).before HB1.out hsz)
  have hfin : Mk.strict 15 n d p.1 p.2 = p.2.put ⟨10, d, r0, 0, []⟩ := by rw [HPE.out]; rfl
  have HFIN := Lib.hid hfin
  clear hfin hg3 HL e0 e1 el hgc hgl
  go_wp2_with fail
  first | go_end0 | (refine bodyPost_ret (results_none rfl _ _ _) rfl ?_)
  exact ⟨rfl, _, by rw [HFIN.out]; exact HG9.out⟩
set_option maxHeartbeats 8000000 in
set_option maxRecDepth 100000 in
theorem value_16 (n : Int) (v : List Int) (t : List Trm) (ht : AllC t) (hct : 1 ≤ t.length) (c0 c1 c2 c3 : Value) (B base mb vb : Nat) (cv : Value) (X : Nat → Prop) (s : MSt) (d : Int) (nc nk : Int) (fr : Bool) (sc : Int → Bool) (W : World)
    (hv : TrmR W B (.mk 16 n v t) [c0, c1, c2, c3]) (hm : MkIn W B base mb vb cv X s) (hw : ∀ x ∈ t, Trm.wf nc nk fr x sc = true) (hroom : Room s (2 + 6 * Trm.allL t)) (hd : 0 ≤ d ∧ d ≤ 1900000) :
    Calls Tryz.prog 112 #[.pointer (some ⟨mb, 0, none⟩), .agg #[c0, c1, c2, c3], .int .i64 d] W fun r w' => r = .returned (.tuple #[]) ∧ ∃ cv', MkGo B base mb vb cv cv' X (Mk.strict 16 n d (Mk.allT Mk.lkL t s).1 (Mk.allT Mk.lkL t s).2) W w' := by
  obtain ⟨W1, hW1⟩ : ∃ W1, W.alloc (.cells #[c0, c1, c2, c3] 41) = W1 := ⟨_, rfl⟩
  have hsz := hm.size
  obtain ⟨ov, lv, cvv, ot, lt, ct, rfl, rfl, rfl, rfl, hn, HBX, HM, HT, HV, HB1, hlt, hlv⟩ := term_box W B base mb vb cv X s _ n v t _ _ _ _ hv hm W1 hW1
  have HW := Lib.hid hW1
  have HN := Lib.hid hn
  clear hlt hlv hn
  have HA := Lib.hid (ht (.slice ot lt ct) B base mb vb cv X s nc nk fr sc W1 HT.out HM.out hw (hroom.mono (by omega)))
  have hra := Mk.Room.allT (k := 2) Mk.lkL_ok t s hroom
  have HPL0 := Lib.hid (allT_length Mk.lkL t s)
  obtain ⟨p, hp⟩ : ∃ p, Mk.allT Mk.lkL t s = p := ⟨_, rfl⟩
  rw [hp] at HA hra HPL0
  rw [hp]
  have HRA := Lib.hid hra
  have e0 := HBX.out.cell 0 rfl
  have e1 := HBX.out.cell 1 rfl
  have e3 := HBX.out.cell 3 rfl
  have el := HBX.out.lt
  clear hv hm hW1 hw hroom hra hp ht
  go_enter Tryz.func112, Tryz.ntmps112
  go_upto_region 1 with fail
  rw [HW.out]
  go_wp2_with fail
  refine HA.out.mono ?_
  rintro r w2 ⟨rv, rfl, cv2, hg2, hi2⟩
  have HG2 := Lib.hid hg2
  have HI2 := Lib.hid hi2
  have HBX2 := Lib.hid (HG2.out.box HM.out HBX.out (by decide) (by decide))
  obtain ⟨ol, ll, cl, rfl⟩ := hi2.1.form
  obtain ⟨hll, hlc, hlm⟩ := hi2.1.lens
  have HLL := Lib.hid hll
  clear hll
  have hcode : p.2.code.length ≤ 1000000 := by have := HRA.out.1.1; omega
  have hdi : I64 d := ⟨by omega, by omega⟩
  clear hg2 hi2 e0 e1 e3 el HA
  have e0 := HBX2.out.cell 0 rfl
  have e1 := HBX2.out.cell 1 rfl
  have el := HBX2.out.lt
  have hll := HLL.out
  have hpl := HPL0.out
  obtain ⟨r0, rl, hpe⟩ : ∃ r0 rl, p.1 = r0 :: rl := by
    cases h : p.1 with
    | nil => rw [h] at hpl; simp at hpl; omega
    | cons a b => exact ⟨a, b, rfl⟩
  obtain ⟨gb, goff, hgo, hgb, hgc, hri⟩ := SlC.int (j := 0) HI2.out.1 (x := r0) (by rw [hpe]; rfl)
  subst hgo
  have hgl := cell_lt hgc
  rw [Nat.add_zero] at hgc
  rw [hpe] at HI2 hll
  simp only [List.length_cons] at hll
  subst hll
  have HRI := Lib.hid hri
  have HPE := Lib.hid hpe
  clear hpl hpe
  have HL := Lib.hid (lay_void 11 d r0 0 [] none 0 0 w2 HG2.out.inn hcode (by constructor <;> omega) hdi hri (by constructor <;> omega) (IntsM.nil _ _))
  clear hri
  go_wp2_with fail
  with_reducible refine HL.out.mono ?_
  rintro r w3 ⟨fv, rfl, cv3, hg3⟩
  have HG9 := Lib.hid ((HG2.out.next hg3).before HB1.out hsz)
  have hfin : Mk.strict 16 n d p.1 p.2 = p.2.put ⟨11, d, r0, 0, []⟩ := by rw [HPE.out]; rfl
  have HFIN := Lib.hid hfin
  clear hfin hg3 HL e0 e1 el hgc hgl
  go_wp2_with fail
  first | go_end0 | (refine bodyPost_ret (results_none rfl _ _ _) rfl ?_)
  exact ⟨rfl, _, by rw [HFIN.out]; exact HG9.out⟩
set_option maxHeartbeats 8000000 in
set_option maxRecDepth 100000 in
theorem value_5 (n : Int) (v : List Int) (t : List Trm) (ht : AllC t) (hct : 1 ≤ t.length) (c0 c1 c2 c3 : Value) (B base mb vb : Nat) (cv : Value) (X : Nat → Prop) (s : MSt) (d : Int) (nc nk : Int) (fr : Bool) (sc : Int → Bool) (W : World)
    (hv : TrmR W B (.mk 5 n v t) [c0, c1, c2, c3]) (hm : MkIn W B base mb vb cv X s) (hw : ∀ x ∈ t, Trm.wf nc nk fr x sc = true) (hroom : Room s (2 + 6 * Trm.allL t)) (hd : 0 ≤ d ∧ d ≤ 1900000) :
    Calls Tryz.prog 112 #[.pointer (some ⟨mb, 0, none⟩), .agg #[c0, c1, c2, c3], .int .i64 d] W fun r w' => r = .returned (.tuple #[]) ∧ ∃ cv', MkGo B base mb vb cv cv' X (Mk.strict 5 n d (Mk.allT Mk.lkL t s).1 (Mk.allT Mk.lkL t s).2) W w' := by
  obtain ⟨W1, hW1⟩ : ∃ W1, W.alloc (.cells #[c0, c1, c2, c3] 41) = W1 := ⟨_, rfl⟩
  have hsz := hm.size
  obtain ⟨ov, lv, cvv, ot, lt, ct, rfl, rfl, rfl, rfl, hn, HBX, HM, HT, HV, HB1, hlt, hlv⟩ := term_box W B base mb vb cv X s _ n v t _ _ _ _ hv hm W1 hW1
  have HW := Lib.hid hW1
  have HN := Lib.hid hn
  clear hlt hlv hn
  have HA := Lib.hid (ht (.slice ot lt ct) B base mb vb cv X s nc nk fr sc W1 HT.out HM.out hw (hroom.mono (by omega)))
  have hra := Mk.Room.allT (k := 2) Mk.lkL_ok t s hroom
  have HPL0 := Lib.hid (allT_length Mk.lkL t s)
  obtain ⟨p, hp⟩ : ∃ p, Mk.allT Mk.lkL t s = p := ⟨_, rfl⟩
  rw [hp] at HA hra HPL0
  rw [hp]
  have HRA := Lib.hid hra
  have e0 := HBX.out.cell 0 rfl
  have e1 := HBX.out.cell 1 rfl
  have e3 := HBX.out.cell 3 rfl
  have el := HBX.out.lt
  clear hv hm hW1 hw hroom hra hp ht
  go_enter Tryz.func112, Tryz.ntmps112
  go_upto_region 1 with fail
  rw [HW.out]
  go_wp2_with fail
  refine HA.out.mono ?_
  rintro r w2 ⟨rv, rfl, cv2, hg2, hi2⟩
  have HG2 := Lib.hid hg2
  have HI2 := Lib.hid hi2
  have HBX2 := Lib.hid (HG2.out.box HM.out HBX.out (by decide) (by decide))
  obtain ⟨ol, ll, cl, rfl⟩ := hi2.1.form
  obtain ⟨hll, hlc, hlm⟩ := hi2.1.lens
  have HLL := Lib.hid hll
  clear hll
  have hcode : p.2.code.length ≤ 1000000 := by have := HRA.out.1.1; omega
  have hdi : I64 d := ⟨by omega, by omega⟩
  clear hg2 hi2 e0 e1 e3 el HA
  have e0 := HBX2.out.cell 0 rfl
  have e1 := HBX2.out.cell 1 rfl
  have el := HBX2.out.lt
  have hll := HLL.out
  have hpl := HPL0.out
  obtain ⟨r0, rl, hpe⟩ : ∃ r0 rl, p.1 = r0 :: rl := by
    cases h : p.1 with
    | nil => rw [h] at hpl; simp at hpl; omega
    | cons a b => exact ⟨a, b, rfl⟩
  obtain ⟨gb, goff, hgo, hgb, hgc, hri⟩ := SlC.int (j := 0) HI2.out.1 (x := r0) (by rw [hpe]; rfl)
  subst hgo
  have hgl := cell_lt hgc
  rw [Nat.add_zero] at hgc
  rw [hpe] at HI2 hll
  simp only [List.length_cons] at hll
  subst hll
  have HRI := Lib.hid hri
  have HPE := Lib.hid hpe
  clear hpl hpe
  go_upto_region 16 with fail
  by_cases hcl1 : cl = 1
  · subst hcl1
    have HDR := Lib.hid (IntsM.rest1 HI2.out)
    have HD := Lib.hid ((Below.refl w2.heap.size w2).drew)
    have HDL := Lib.hid (fun (W3 : World) (hb : Below w2.heap.size w2 W3) => lay_void 17 d r0 0 rl (some ⟨gb, goff, none⟩) 0 0 W3 (HG2.out.inn.keep hb) hcode (by constructor <;> omega) hdi HRI.out (by constructor <;> omega) (HDR.out.below hb))
    refine wp_region_quiet_class (Below w2.heap.size w2) 8 (by kernel_rfl) (by kernel_rfl) HD.out ?_
    intro T0 _ WW HWW HWW2
    have z0 : ∀ t, (WW t).cell? _ = _ := fun t => ((HWW t).cell (p := ⟨gb, goff, none⟩) hgl).trans hgc
    have HWH := Lib.hid HWW
    clear HWW HWW2
    simp only [List.take_succ_cons, List.take_zero, List.drop_succ_cons, List.drop_zero]
    repeat (go_big_quiet_step (fail))
    refine wpQuiet_nil ?_
    intro t'
    obtain ⟨W3, hW3⟩ : ∃ W3, WW t' = W3 := ⟨_, rfl⟩
    have HB3 := Lib.hid (show Below w2.heap.size w2 W3 from hW3 ▸ HWH.out t')
    rw [hW3]
    clear z0 hW3 HWH e0 e1 el
    have HL := Lib.hid (HDL.out W3 HB3.out)
    go_wp2_with fail
    with_reducible refine HL.out.mono ?_
    rintro r w3 ⟨fv, rfl, cv3, hg3⟩
    have HG9 := Lib.hid (((HG2.out.after HB3.out).next hg3).before HB1.out hsz)
    have hfin : Mk.strict 5 n d p.1 p.2 = p.2.put ⟨17, d, r0, 0, rl⟩ := by rw [HPE.out]; rfl
    have HFIN := Lib.hid hfin
    clear hfin hg3 HL hgc hgl
    go_wp2_with fail
    first | go_end0 | (refine bodyPost_ret (results_none rfl _ _ _) rfl ?_)
    exact ⟨rfl, _, by rw [HFIN.out]; exact HG9.out⟩
  · have hcl2 : 1 < cl := by omega
    have HDR := Lib.hid (IntsM.rest2 HI2.out hcl1)
    have HD := Lib.hid ((Below.refl w2.heap.size w2).drew)
    have HDL := Lib.hid (fun (W3 : World) (hb : Below w2.heap.size w2 W3) => lay_void 17 d r0 0 rl (some ⟨gb, goff + 1, none⟩) rl.length (cl - 1) W3 (HG2.out.inn.keep hb) hcode (by constructor <;> omega) hdi HRI.out (by constructor <;> omega) (HDR.out.below hb))
    refine wp_region_quiet_class (Below w2.heap.size w2) 8 (by kernel_rfl) (by kernel_rfl) HD.out ?_
    intro T0 _ WW HWW HWW2
    have z0 : ∀ t, (WW t).cell? _ = _ := fun t => ((HWW t).cell (p := ⟨gb, goff, none⟩) hgl).trans hgc
    have HWH := Lib.hid HWW
    clear HWW HWW2
    simp only [List.take_succ_cons, List.take_zero, List.drop_succ_cons, List.drop_zero]
    repeat (go_big_quiet_step (fail))
    refine wpQuiet_nil ?_
    intro t'
    obtain ⟨W3, hW3⟩ : ∃ W3, WW t' = W3 := ⟨_, rfl⟩
    have HB3 := Lib.hid (show Below w2.heap.size w2 W3 from hW3 ▸ HWH.out t')
    rw [hW3]
    clear z0 hW3 HWH e0 e1 el
    have HL := Lib.hid (HDL.out W3 HB3.out)
    go_wp2_with fail
    with_reducible refine HL.out.mono ?_
    rintro r w3 ⟨fv, rfl, cv3, hg3⟩
    have HG9 := Lib.hid (((HG2.out.after HB3.out).next hg3).before HB1.out hsz)
    have hfin : Mk.strict 5 n d p.1 p.2 = p.2.put ⟨17, d, r0, 0, rl⟩ := by rw [HPE.out]; rfl
    have HFIN := Lib.hid hfin
    clear hfin hg3 HL hgc hgl
    go_wp2_with fail
    first | go_end0 | (refine bodyPost_ret (results_none rfl _ _ _) rfl ?_)
    exact ⟨rfl, _, by rw [HFIN.out]; exact HG9.out⟩
set_option maxHeartbeats 8000000 in
set_option maxRecDepth 100000 in
theorem value_22 (n : Int) (v : List Int) (t : List Trm) (ht : AllC t) (hct : 1 ≤ t.length) (c0 c1 c2 c3 : Value) (B base mb vb : Nat) (cv : Value) (X : Nat → Prop) (s : MSt) (d : Int) (nc nk : Int) (fr : Bool) (sc : Int → Bool) (W : World)
    (hv : TrmR W B (.mk 22 n v t) [c0, c1, c2, c3]) (hm : MkIn W B base mb vb cv X s) (hw : ∀ x ∈ t, Trm.wf nc nk fr x sc = true) (hroom : Room s (2 + 6 * Trm.allL t)) (hd : 0 ≤ d ∧ d ≤ 1900000) :
    Calls Tryz.prog 112 #[.pointer (some ⟨mb, 0, none⟩), .agg #[c0, c1, c2, c3], .int .i64 d] W fun r w' => r = .returned (.tuple #[]) ∧ ∃ cv', MkGo B base mb vb cv cv' X (Mk.strict 22 n d (Mk.allT Mk.lkL t s).1 (Mk.allT Mk.lkL t s).2) W w' := by
  obtain ⟨W1, hW1⟩ : ∃ W1, W.alloc (.cells #[c0, c1, c2, c3] 41) = W1 := ⟨_, rfl⟩
  have hsz := hm.size
  obtain ⟨ov, lv, cvv, ot, lt, ct, rfl, rfl, rfl, rfl, hn, HBX, HM, HT, HV, HB1, hlt, hlv⟩ := term_box W B base mb vb cv X s _ n v t _ _ _ _ hv hm W1 hW1
  have HW := Lib.hid hW1
  have HN := Lib.hid hn
  clear hlt hlv hn
  have HA := Lib.hid (ht (.slice ot lt ct) B base mb vb cv X s nc nk fr sc W1 HT.out HM.out hw (hroom.mono (by omega)))
  have hra := Mk.Room.allT (k := 2) Mk.lkL_ok t s hroom
  have HPL0 := Lib.hid (allT_length Mk.lkL t s)
  obtain ⟨p, hp⟩ : ∃ p, Mk.allT Mk.lkL t s = p := ⟨_, rfl⟩
  rw [hp] at HA hra HPL0
  rw [hp]
  have HRA := Lib.hid hra
  have e0 := HBX.out.cell 0 rfl
  have e1 := HBX.out.cell 1 rfl
  have e3 := HBX.out.cell 3 rfl
  have el := HBX.out.lt
  clear hv hm hW1 hw hroom hra hp ht
  go_enter Tryz.func112, Tryz.ntmps112
  go_upto_region 1 with fail
  rw [HW.out]
  go_wp2_with fail
  refine HA.out.mono ?_
  rintro r w2 ⟨rv, rfl, cv2, hg2, hi2⟩
  have HG2 := Lib.hid hg2
  have HI2 := Lib.hid hi2
  have HBX2 := Lib.hid (HG2.out.box HM.out HBX.out (by decide) (by decide))
  obtain ⟨ol, ll, cl, rfl⟩ := hi2.1.form
  obtain ⟨hll, hlc, hlm⟩ := hi2.1.lens
  have HLL := Lib.hid hll
  clear hll
  have hcode : p.2.code.length ≤ 1000000 := by have := HRA.out.1.1; omega
  have hdi : I64 d := ⟨by omega, by omega⟩
  clear hg2 hi2 e0 e1 e3 el HA
  have e0 := HBX2.out.cell 0 rfl
  have e1 := HBX2.out.cell 1 rfl
  have el := HBX2.out.lt
  have hll := HLL.out
  have hpl := HPL0.out
  obtain ⟨r0, rl, hpe⟩ : ∃ r0 rl, p.1 = r0 :: rl := by
    cases h : p.1 with
    | nil => rw [h] at hpl; simp at hpl; omega
    | cons a b => exact ⟨a, b, rfl⟩
  obtain ⟨gb, goff, hgo, hgb, hgc, hri⟩ := SlC.int (j := 0) HI2.out.1 (x := r0) (by rw [hpe]; rfl)
  subst hgo
  have hgl := cell_lt hgc
  rw [Nat.add_zero] at hgc
  rw [hpe] at HI2 hll
  simp only [List.length_cons] at hll
  subst hll
  have HRI := Lib.hid hri
  have HPE := Lib.hid hpe
  clear hpl hpe
  go_upto_region 18 with fail
  by_cases hcl1 : cl = 1
  · subst hcl1
    have HDR := Lib.hid (IntsM.rest1 HI2.out)
    have HD := Lib.hid ((Below.refl w2.heap.size w2).drew)
    have HDL := Lib.hid (fun (W3 : World) (hb : Below w2.heap.size w2 W3) => lay_void 18 d n r0 rl (some ⟨gb, goff, none⟩) 0 0 W3 (HG2.out.inn.keep hb) hcode (by constructor <;> omega) hdi HN.out HRI.out (HDR.out.below hb))
    refine wp_region_quiet_class (Below w2.heap.size w2) 10 (by kernel_rfl) (by kernel_rfl) HD.out ?_
    intro T0 _ WW HWW HWW2
    have z0 : ∀ t, (WW t).cell? _ = _ := fun t => ((HWW t).cell (p := ⟨W.heap.size, 1, none⟩) el).trans e1
    have z1 : ∀ t, (WW t).cell? _ = _ := fun t => ((HWW t).cell (p := ⟨gb, goff, none⟩) hgl).trans hgc
    have HWH := Lib.hid HWW
    clear HWW HWW2
    simp only [List.take_succ_cons, List.take_zero, List.drop_succ_cons, List.drop_zero]
    repeat (go_big_quiet_step (fail))
    refine wpQuiet_nil ?_
    intro t'
    obtain ⟨W3, hW3⟩ : ∃ W3, WW t' = W3 := ⟨_, rfl⟩
    have HB3 := Lib.hid (show Below w2.heap.size w2 W3 from hW3 ▸ HWH.out t')
    rw [hW3]
    clear z0 z1 hW3 HWH e0 e1 el
    have HL := Lib.hid (HDL.out W3 HB3.out)
    go_wp2_with fail
    with_reducible refine HL.out.mono ?_
    rintro r w3 ⟨fv, rfl, cv3, hg3⟩
    have HG9 := Lib.hid (((HG2.out.after HB3.out).next hg3).before HB1.out hsz)
    have hfin : Mk.strict 22 n d p.1 p.2 = p.2.put ⟨18, d, n, r0, rl⟩ := by rw [HPE.out]; rfl
    have HFIN := Lib.hid hfin
    clear hfin hg3 HL hgc hgl
    go_wp2_with fail
    first | go_end0 | (refine bodyPost_ret (results_none rfl _ _ _) rfl ?_)
    exact ⟨rfl, _, by rw [HFIN.out]; exact HG9.out⟩
  · have hcl2 : 1 < cl := by omega
    have HDR := Lib.hid (IntsM.rest2 HI2.out hcl1)
    have HD := Lib.hid ((Below.refl w2.heap.size w2).drew)
    have HDL := Lib.hid (fun (W3 : World) (hb : Below w2.heap.size w2 W3) => lay_void 18 d n r0 rl (some ⟨gb, goff + 1, none⟩) rl.length (cl - 1) W3 (HG2.out.inn.keep hb) hcode (by constructor <;> omega) hdi HN.out HRI.out (HDR.out.below hb))
    refine wp_region_quiet_class (Below w2.heap.size w2) 10 (by kernel_rfl) (by kernel_rfl) HD.out ?_
    intro T0 _ WW HWW HWW2
    have z0 : ∀ t, (WW t).cell? _ = _ := fun t => ((HWW t).cell (p := ⟨W.heap.size, 1, none⟩) el).trans e1
    have z1 : ∀ t, (WW t).cell? _ = _ := fun t => ((HWW t).cell (p := ⟨gb, goff, none⟩) hgl).trans hgc
    have HWH := Lib.hid HWW
    clear HWW HWW2
    simp only [List.take_succ_cons, List.take_zero, List.drop_succ_cons, List.drop_zero]
    repeat (go_big_quiet_step (fail))
    refine wpQuiet_nil ?_
    intro t'
    obtain ⟨W3, hW3⟩ : ∃ W3, WW t' = W3 := ⟨_, rfl⟩
    have HB3 := Lib.hid (show Below w2.heap.size w2 W3 from hW3 ▸ HWH.out t')
    rw [hW3]
    clear z0 z1 hW3 HWH e0 e1 el
    have HL := Lib.hid (HDL.out W3 HB3.out)
    go_wp2_with fail
    with_reducible refine HL.out.mono ?_
    rintro r w3 ⟨fv, rfl, cv3, hg3⟩
    have HG9 := Lib.hid (((HG2.out.after HB3.out).next hg3).before HB1.out hsz)
    have hfin : Mk.strict 22 n d p.1 p.2 = p.2.put ⟨18, d, n, r0, rl⟩ := by rw [HPE.out]; rfl
    have HFIN := Lib.hid hfin
    clear hfin hg3 HL hgc hgl
    go_wp2_with fail
    first | go_end0 | (refine bodyPost_ret (results_none rfl _ _ _) rfl ?_)
    exact ⟨rfl, _, by rw [HFIN.out]; exact HG9.out⟩
set_option maxHeartbeats 8000000 in
set_option maxRecDepth 100000 in
theorem value_17 (n : Int) (v : List Int) (t : List Trm) (ht : AllC t) (hct : 2 ≤ t.length) (c0 c1 c2 c3 : Value) (B base mb vb : Nat) (cv : Value) (X : Nat → Prop) (s : MSt) (d : Int) (nc nk : Int) (fr : Bool) (sc : Int → Bool) (W : World)
    (hv : TrmR W B (.mk 17 n v t) [c0, c1, c2, c3]) (hm : MkIn W B base mb vb cv X s) (hw : ∀ x ∈ t, Trm.wf nc nk fr x sc = true) (hroom : Room s (2 + 6 * Trm.allL t)) (hd : 0 ≤ d ∧ d ≤ 1900000) :
    Calls Tryz.prog 112 #[.pointer (some ⟨mb, 0, none⟩), .agg #[c0, c1, c2, c3], .int .i64 d] W fun r w' => r = .returned (.tuple #[]) ∧ ∃ cv', MkGo B base mb vb cv cv' X (Mk.strict 17 n d (Mk.allT Mk.lkL t s).1 (Mk.allT Mk.lkL t s).2) W w' := by
  obtain ⟨W1, hW1⟩ : ∃ W1, W.alloc (.cells #[c0, c1, c2, c3] 41) = W1 := ⟨_, rfl⟩
  have hsz := hm.size
  obtain ⟨ov, lv, cvv, ot, lt, ct, rfl, rfl, rfl, rfl, hn, HBX, HM, HT, HV, HB1, hlt, hlv⟩ := term_box W B base mb vb cv X s _ n v t _ _ _ _ hv hm W1 hW1
  have HW := Lib.hid hW1
  have HN := Lib.hid hn
  clear hlt hlv hn
  have HA := Lib.hid (ht (.slice ot lt ct) B base mb vb cv X s nc nk fr sc W1 HT.out HM.out hw (hroom.mono (by omega)))
  have hra := Mk.Room.allT (k := 2) Mk.lkL_ok t s hroom
  have HPL0 := Lib.hid (allT_length Mk.lkL t s)
  obtain ⟨p, hp⟩ : ∃ p, Mk.allT Mk.lkL t s = p := ⟨_, rfl⟩
  rw [hp] at HA hra HPL0
  rw [hp]
  have HRA := Lib.hid hra
  have e0 := HBX.out.cell 0 rfl
  have e1 := HBX.out.cell 1 rfl
  have e3 := HBX.out.cell 3 rfl
  have el := HBX.out.lt
  clear hv hm hW1 hw hroom hra hp ht
  go_enter Tryz.func112, Tryz.ntmps112
  go_upto_region 1 with fail
  rw [HW.out]
  go_wp2_with fail
  refine HA.out.mono ?_
  rintro r w2 ⟨rv, rfl, cv2, hg2, hi2⟩
  have HG2 := Lib.hid hg2
  have HI2 := Lib.hid hi2
  have HBX2 := Lib.hid (HG2.out.box HM.out HBX.out (by decide) (by decide))
  obtain ⟨ol, ll, cl, rfl⟩ := hi2.1.form
  obtain ⟨hll, hlc, hlm⟩ := hi2.1.lens
  have HLL := Lib.hid hll
  clear hll
  have hcode : p.2.code.length ≤ 1000000 := by have := HRA.out.1.1; omega
  have hdi : I64 d := ⟨by omega, by omega⟩
  clear hg2 hi2 e0 e1 e3 el HA
  have e0 := HBX2.out.cell 0 rfl
  have e1 := HBX2.out.cell 1 rfl
  have el := HBX2.out.lt
  have hll := HLL.out
  have hpl := HPL0.out
  obtain ⟨r0, r1, rl, hpe⟩ : ∃ r0 r1 rl, p.1 = r0 :: r1 :: rl := by
    cases h : p.1 with
    | nil => rw [h] at hpl; simp at hpl; omega
    | cons a b =>
      cases b with
      | nil => rw [h] at hpl; simp at hpl; omega
      | cons c d => exact ⟨a, c, d, rfl⟩
  obtain ⟨gb, goff, hgo, hgb, hgc, hri⟩ := SlC.int (j := 0) HI2.out.1 (x := r0) (by rw [hpe]; rfl)
  obtain ⟨gb', goff', hgo', _, hgd, hri1⟩ := SlC.int (j := 1) HI2.out.1 (x := r1) (by rw [hpe]; rfl)
  subst hgo
  simp only [Option.some.injEq, Addr.mk.injEq, and_true] at hgo'
  obtain ⟨rfl, rfl⟩ := hgo'
  have hgl := cell_lt hgc
  rw [Nat.add_zero] at hgc
  rw [hpe] at HI2 hll
  simp only [List.length_cons] at hll
  subst hll
  have HRI := Lib.hid hri
  have HRI1 := Lib.hid hri1
  have HPE := Lib.hid hpe
  clear hpl hpe hri hri1
  go_upto_region 34 with fail
  have HD := Lib.hid ((Below.refl w2.heap.size w2).drew)
  have HDL := Lib.hid (fun (W3 : World) (hb : Below w2.heap.size w2 W3) => lay_void 12 0 r0 r1 [] none 0 0 W3 (HG2.out.inn.keep hb) hcode (by constructor <;> omega) (by constructor <;> omega) HRI.out HRI1.out (IntsM.nil _ _))
  refine wp_region_quiet_class (Below w2.heap.size w2) 9 (by kernel_rfl) (by kernel_rfl) HD.out ?_
  intro T0 _ WW HWW HWW2
  have z0 : ∀ t, (WW t).cell? _ = _ := fun t => ((HWW t).cell (p := ⟨gb, goff, none⟩) hgl).trans hgc
  have z1 : ∀ t, (WW t).cell? _ = _ := fun t => ((HWW t).cell (p := ⟨gb, goff + 1, none⟩) hgl).trans hgd
  have HWH := Lib.hid HWW
  clear HWW HWW2
  simp only [List.take_succ_cons, List.take_zero, List.drop_succ_cons, List.drop_zero]
  repeat (go_big_quiet_step (fail))
  refine wpQuiet_nil ?_
  intro t'
  obtain ⟨W3, hW3⟩ : ∃ W3, WW t' = W3 := ⟨_, rfl⟩
  have HB3 := Lib.hid (show Below w2.heap.size w2 W3 from hW3 ▸ HWH.out t')
  rw [hW3]
  clear z0 z1 hW3 HWH e0 e1 el
  have HL := Lib.hid (HDL.out W3 HB3.out)
  go_wp2_with fail
  with_reducible refine HL.out.mono ?_
  rintro r w3 ⟨fv, rfl, cv3, hg3⟩
  have HG4 := Lib.hid ((HG2.out.after HB3.out).next hg3)
  have HL2 := Lib.hid (lay_void 4 d 0 0 [] none 0 0 w3 HG4.out.inn (by have := HRA.out.1.1; simp only [MSt.put, List.length_append, List.length_singleton]; omega) (by constructor <;> omega) hdi (by constructor <;> omega) (by constructor <;> omega) (IntsM.nil _ _))
  clear hg3 HL hgc hgl hgd
  go_wp2_with fail
  with_reducible refine HL2.out.mono ?_
  rintro r w4 ⟨fv2, rfl, cv4, hg4⟩
  have HG9 := Lib.hid ((HG4.out.next hg4).before HB1.out hsz)
  have hfin : Mk.strict 17 n d p.1 p.2 = (p.2.put ⟨12, 0, r0, r1, []⟩).put ⟨4, d, 0, 0, []⟩ := by rw [HPE.out]; rfl
  have HFIN := Lib.hid hfin
  clear hfin hg4 HL2
  go_wp2_with fail
  first | go_end0 | (refine bodyPost_ret (results_none rfl _ _ _) rfl ?_)
  exact ⟨rfl, _, by rw [HFIN.out]; exact HG9.out⟩
set_option maxHeartbeats 8000000 in
set_option maxRecDepth 100000 in
theorem value_18 (n : Int) (v : List Int) (t : List Trm) (ht : AllC t) (hct : 2 ≤ t.length) (c0 c1 c2 c3 : Value) (B base mb vb : Nat) (cv : Value) (X : Nat → Prop) (s : MSt) (d : Int) (nc nk : Int) (fr : Bool) (sc : Int → Bool) (W : World)
    (hv : TrmR W B (.mk 18 n v t) [c0, c1, c2, c3]) (hm : MkIn W B base mb vb cv X s) (hw : ∀ x ∈ t, Trm.wf nc nk fr x sc = true) (hroom : Room s (2 + 6 * Trm.allL t)) (hd : 0 ≤ d ∧ d ≤ 1900000) :
    Calls Tryz.prog 112 #[.pointer (some ⟨mb, 0, none⟩), .agg #[c0, c1, c2, c3], .int .i64 d] W fun r w' => r = .returned (.tuple #[]) ∧ ∃ cv', MkGo B base mb vb cv cv' X (Mk.strict 18 n d (Mk.allT Mk.lkL t s).1 (Mk.allT Mk.lkL t s).2) W w' := by
  obtain ⟨W1, hW1⟩ : ∃ W1, W.alloc (.cells #[c0, c1, c2, c3] 41) = W1 := ⟨_, rfl⟩
  have hsz := hm.size
  obtain ⟨ov, lv, cvv, ot, lt, ct, rfl, rfl, rfl, rfl, hn, HBX, HM, HT, HV, HB1, hlt, hlv⟩ := term_box W B base mb vb cv X s _ n v t _ _ _ _ hv hm W1 hW1
  have HW := Lib.hid hW1
  have HN := Lib.hid hn
  clear hlt hlv hn
  have HA := Lib.hid (ht (.slice ot lt ct) B base mb vb cv X s nc nk fr sc W1 HT.out HM.out hw (hroom.mono (by omega)))
  have hra := Mk.Room.allT (k := 2) Mk.lkL_ok t s hroom
  have HPL0 := Lib.hid (allT_length Mk.lkL t s)
  obtain ⟨p, hp⟩ : ∃ p, Mk.allT Mk.lkL t s = p := ⟨_, rfl⟩
  rw [hp] at HA hra HPL0
  rw [hp]
  have HRA := Lib.hid hra
  have e0 := HBX.out.cell 0 rfl
  have e1 := HBX.out.cell 1 rfl
  have e3 := HBX.out.cell 3 rfl
  have el := HBX.out.lt
  clear hv hm hW1 hw hroom hra hp ht
  go_enter Tryz.func112, Tryz.ntmps112
  go_upto_region 1 with fail
  rw [HW.out]
  go_wp2_with fail
  refine HA.out.mono ?_
  rintro r w2 ⟨rv, rfl, cv2, hg2, hi2⟩
  have HG2 := Lib.hid hg2
  have HI2 := Lib.hid hi2
  have HBX2 := Lib.hid (HG2.out.box HM.out HBX.out (by decide) (by decide))
  obtain ⟨ol, ll, cl, rfl⟩ := hi2.1.form
  obtain ⟨hll, hlc, hlm⟩ := hi2.1.lens
  have HLL := Lib.hid hll
  clear hll
  have hcode : p.2.code.length ≤ 1000000 := by have := HRA.out.1.1; omega
  have hdi : I64 d := ⟨by omega, by omega⟩
  clear hg2 hi2 e0 e1 e3 el HA
  have e0 := HBX2.out.cell 0 rfl
  have e1 := HBX2.out.cell 1 rfl
  have el := HBX2.out.lt
  have hll := HLL.out
  have hpl := HPL0.out
  obtain ⟨r0, r1, rl, hpe⟩ : ∃ r0 r1 rl, p.1 = r0 :: r1 :: rl := by
    cases h : p.1 with
    | nil => rw [h] at hpl; simp at hpl; omega
    | cons a b =>
      cases b with
      | nil => rw [h] at hpl; simp at hpl; omega
      | cons c d => exact ⟨a, c, d, rfl⟩
  obtain ⟨gb, goff, hgo, hgb, hgc, hri⟩ := SlC.int (j := 0) HI2.out.1 (x := r0) (by rw [hpe]; rfl)
  obtain ⟨gb', goff', hgo', _, hgd, hri1⟩ := SlC.int (j := 1) HI2.out.1 (x := r1) (by rw [hpe]; rfl)
  subst hgo
  simp only [Option.some.injEq, Addr.mk.injEq, and_true] at hgo'
  obtain ⟨rfl, rfl⟩ := hgo'
  have hgl := cell_lt hgc
  rw [Nat.add_zero] at hgc
  rw [hpe] at HI2 hll
  simp only [List.length_cons] at hll
  subst hll
  have HRI := Lib.hid hri
  have HRI1 := Lib.hid hri1
  have HPE := Lib.hid hpe
  clear hpl hpe hri hri1
  go_upto_region 34 with fail
  have HD := Lib.hid ((Below.refl w2.heap.size w2).drew)
  have HDL := Lib.hid (fun (W3 : World) (hb : Below w2.heap.size w2 W3) => lay_void 13 0 r0 r1 [] none 0 0 W3 (HG2.out.inn.keep hb) hcode (by constructor <;> omega) (by constructor <;> omega) HRI.out HRI1.out (IntsM.nil _ _))
  refine wp_region_quiet_class (Below w2.heap.size w2) 9 (by kernel_rfl) (by kernel_rfl) HD.out ?_
  intro T0 _ WW HWW HWW2
  have z0 : ∀ t, (WW t).cell? _ = _ := fun t => ((HWW t).cell (p := ⟨gb, goff, none⟩) hgl).trans hgc
  have z1 : ∀ t, (WW t).cell? _ = _ := fun t => ((HWW t).cell (p := ⟨gb, goff + 1, none⟩) hgl).trans hgd
  have HWH := Lib.hid HWW
  clear HWW HWW2
  simp only [List.take_succ_cons, List.take_zero, List.drop_succ_cons, List.drop_zero]
  repeat (go_big_quiet_step (fail))
  refine wpQuiet_nil ?_
  intro t'
  obtain ⟨W3, hW3⟩ : ∃ W3, WW t' = W3 := ⟨_, rfl⟩
  have HB3 := Lib.hid (show Below w2.heap.size w2 W3 from hW3 ▸ HWH.out t')
  rw [hW3]
  clear z0 z1 hW3 HWH e0 e1 el
  have HL := Lib.hid (HDL.out W3 HB3.out)
  go_wp2_with fail
  with_reducible refine HL.out.mono ?_
  rintro r w3 ⟨fv, rfl, cv3, hg3⟩
  have HG4 := Lib.hid ((HG2.out.after HB3.out).next hg3)
  have HL2 := Lib.hid (lay_void 4 d 0 0 [] none 0 0 w3 HG4.out.inn (by have := HRA.out.1.1; simp only [MSt.put, List.length_append, List.length_singleton]; omega) (by constructor <;> omega) hdi (by constructor <;> omega) (by constructor <;> omega) (IntsM.nil _ _))
  clear hg3 HL hgc hgl hgd
  go_wp2_with fail
  with_reducible refine HL2.out.mono ?_
  rintro r w4 ⟨fv2, rfl, cv4, hg4⟩
  have HG9 := Lib.hid ((HG4.out.next hg4).before HB1.out hsz)
  have hfin : Mk.strict 18 n d p.1 p.2 = (p.2.put ⟨13, 0, r0, r1, []⟩).put ⟨4, d, 0, 0, []⟩ := by rw [HPE.out]; rfl
  have HFIN := Lib.hid hfin
  clear hfin hg4 HL2
  go_wp2_with fail
  first | go_end0 | (refine bodyPost_ret (results_none rfl _ _ _) rfl ?_)
  exact ⟨rfl, _, by rw [HFIN.out]; exact HG9.out⟩
set_option maxHeartbeats 8000000 in
set_option maxRecDepth 100000 in
theorem value_1 (n : Int) (v : List Int) (t : List Trm) (c0 c1 c2 c3 : Value) (B base mb vb : Nat) (cv : Value) (X : Nat → Prop) (s : MSt) (d : Int) (W : World)
    (hv : TrmR W B (.mk 1 n v t) [c0, c1, c2, c3]) (hm : MkIn W B base mb vb cv X s) (hroom : Room s 2) (hd : 0 ≤ d ∧ d ≤ 1900000) :
    Calls Tryz.prog 112 #[.pointer (some ⟨mb, 0, none⟩), .agg #[c0, c1, c2, c3], .int .i64 d] W fun r w' => r = .returned (.tuple #[]) ∧ ∃ cv', MkGo B base mb vb cv cv' X (s.put ⟨1, d, Mk.lkL s.vars n, 0, []⟩) W w' := by
  obtain ⟨w2, hW1⟩ : ∃ w2, W.alloc (.cells #[c0, c1, c2, c3] 41) = w2 := ⟨_, rfl⟩
  have hsz := hm.size
  obtain ⟨ov, lv, cvv, ot, lt, ct, rfl, rfl, rfl, rfl, hn, HBX, HM, HT, HV, HB1, hlt, hlv⟩ := term_box W B base mb vb cv X s _ n v t _ _ _ _ hv hm w2 hW1
  have HW := Lib.hid hW1
  have HN := Lib.hid hn
  have hrr := hroom.lk Mk.lkL_ok n
  have hcode : s.code.length ≤ 1000000 := by have := hroom.1; omega
  have hdi : I64 d := ⟨by omega, by omega⟩
  have e0 := HBX.out.cell 0 rfl
  have e1 := HBX.out.cell 1 rfl
  have el := HBX.out.lt
  have m2 := HM.out.st.box.cell 2 rfl
  have ml := HM.out.st.box.lt
  obtain ⟨rg, hrg⟩ : ∃ rg, Mk.lkL s.vars n = rg := ⟨_, rfl⟩
  have HRG := Lib.hid hrg
  rw [hrg] at hrr ⊢
  clear hv hm hW1 hroom hlt hlv hn hrg
  go_enter Tryz.func112, Tryz.ntmps112
  go_upto_region 2 with fail
  rw [HW.out]
  have HD := Lib.hid ((Below.refl w2.heap.size w2).drew)
  have HDL := Lib.hid (fun (W3 : World) (hb : Below w2.heap.size w2 W3) => lay_void 1 d rg 0 [] none 0 0 W3 (HM.out.keep hb) hcode (by constructor <;> omega) hdi (by constructor <;> omega) (by constructor <;> omega) (IntsM.nil _ _))
  refine wp_region_quiet_class (Below w2.heap.size w2) 10 (by kernel_rfl) (by kernel_rfl) HD.out ?_
  intro T0 _ WW HWW HWW2
  have z0 : ∀ t, (WW t).cell? _ = _ := fun t => ((HWW t).cell (p := ⟨W.heap.size, 1, none⟩) el).trans e1
  have z1 : ∀ t, (WW t).cell? _ = _ := fun t => ((HWW t).cell (p := ⟨mb, 2, none⟩) ml).trans m2
  have zk : ∀ t, (Instr.lookup 108 (.map (some vb)) (.int .i64 n) false).run Tryz.prog (WW t) = .ok (.int .i64 rg) (WW t) := fun t => by rw [← HRG.out]; exact look_run (HM.out.st.vars.keep (HWW t)) n HN.out
  have HWH := Lib.hid HWW
  clear HWW HWW2
  simp only [List.take_succ_cons, List.take_zero, List.drop_succ_cons, List.drop_zero]
  repeat (go_big_quiet_step (fail))
  refine wpQuiet_nil ?_
  intro t'
  obtain ⟨W3, hW3⟩ : ∃ W3, WW t' = W3 := ⟨_, rfl⟩
  have HB3 := Lib.hid (show Below w2.heap.size w2 W3 from hW3 ▸ HWH.out t')
  rw [hW3]
  clear z0 z1 zk hW3 m2 ml HWH e0 e1 el
  have HL := Lib.hid (HDL.out W3 HB3.out)
  go_wp2_with fail
  with_reducible refine HL.out.mono ?_
  rintro r w3 ⟨fv, rfl, cv3, hg3⟩
  have HG9 := Lib.hid ((((MkGo.refl HM.out).after HB3.out).next hg3).before HB1.out hsz)
  clear hg3 HL
  go_wp2_with fail
  first | go_end0 | (refine bodyPost_ret (results_none rfl _ _ _) rfl ?_)
  exact ⟨rfl, _, HG9.out⟩
end Go.Proofs.YtigkhmppnnljiaaGreatDoor

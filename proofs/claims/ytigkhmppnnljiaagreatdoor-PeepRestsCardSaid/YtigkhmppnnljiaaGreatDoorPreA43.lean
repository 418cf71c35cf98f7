/-
  What the proofs lean on: Zi.
-/
import Derived.Test.YtigkhmppnnljiaaGreatDoorPreA41
set_option maxRecDepth 100000
set_option maxHeartbeats 16000000
namespace Go.Proofs.YtigkhmppnnljiaaGreatDoor
section
open Go Go.RowKit Mk
theorem zterm_box (W : World) (B base mb : Nat) (K : KV) (X : Nat → Prop) (s : MSt) (op n : Int) (v : List Int) (t : List Trm) (c0 c1 c2 c3 : Value) (hv : TrmR W B (.mk op n v t) [c0, c1, c2, c3]) (hm : ZkIn W B base mb K X s) (W1 : World) (hW1 : W.alloc (.cells #[c0, c1, c2, c3] 41) = W1) :
  ∃ ov lv cvv ot lt ct, c0 = .int .i64 op ∧ c1 = .int .i64 n ∧ c2 = .slice ov lv cvv ∧ c3 = .slice ot lt ct ∧ I64 n ∧ Hid (BoxL W1 W.heap.size 41 [c0, c1, c2, c3]) ∧ Hid (ZkIn W1 B base mb K X s) ∧ Hid (TrmS W1 B t (.slice ot lt ct)) ∧ Hid (TrmR W1 B (.mk op n v t) [c0, c1, c2, c3]) ∧ Hid (Below W.heap.size W W1) ∧ lt = t.length ∧ lv = v.length := by
 have HB1 : Below W.heap.size W W1 := by rw [← hW1]; exact Below.one W _
 have hv1 : TrmR W1 B (.mk op n v t) [c0, c1, c2, c3] := TrmR.kept (HB1.mono hm.size) _ _ hv
 obtain ⟨vs, ts, he, _, hn, hvs, hts⟩ := trmR_iff.1 hv
 simp only [List.cons.injEq, and_true] at he
 obtain ⟨rfl, rfl, rfl, rfl⟩ := he
 obtain ⟨ov, lv, cvv, rfl⟩ := hvs.form
 obtain ⟨ot, lt, ct, rfl⟩ := hts.form
 have hT : TrmS W1 B t (.slice ot lt ct) := TrmS.kept hts (HB1.mono hm.size)
 exact ⟨ov, lv, cvv, ot, lt, ct, rfl, rfl, rfl, rfl, hn, Lib.hid (by rw [← hW1]; exact BoxL.new rfl _ _), Lib.hid (hm.keep HB1), Lib.hid hT, Lib.hid hv1, Lib.hid HB1, (SlC.lens hT).1, hvs.lens.1⟩
theorem zinto_0 (n : Int) (v : List Int) (t : List Trm) (c0 c1 c2 c3 : Value) (B base mb : Nat) (K : KV) (X : Nat → Prop) (s : MSt) (d : Int) (W : World)
  (hv : TrmR W B (.mk 0 n v t) [c0, c1, c2, c3]) (hm : ZkIn W B base mb K X s) (hroom : Room s 1) (hd : 0 ≤ d ∧ d ≤ 1900000) :
  Calls Tryz.prog 76 #[.pointer (some ⟨mb, 0, none⟩), .agg #[c0, c1, c2, c3], .int .i64 d, .bool false] W fun r w' => r = .returned (.tuple #[]) ∧ ∃ K', ZkGo B base mb K K' X (s.put ⟨0, d, n, 0, []⟩) W w' := by
 obtain ⟨W1, hW1⟩ : ∃ W1, W.alloc (.cells #[c0, c1, c2, c3] 41) = W1 := ⟨_, rfl⟩
 have hsz := hm.size
 obtain ⟨ov, lv, cvv, ot, lt, ct, rfl, rfl, rfl, rfl, hn, HBX, HM, HT, HV1, HB1, hlt, hlv⟩ := zterm_box W B base mb K X s _ n v t _ _ _ _ hv hm W1 hW1
 have HW := Lib.hid hW1
 have HN := Lib.hid hn
 have e0 := HBX.out.cell 0 rfl
 have e1 := HBX.out.cell 1 rfl
 have e2 := HBX.out.cell 2 rfl
 have e3 := HBX.out.cell 3 rfl
 have el := HBX.out.lt
 have hcode : s.code.length ≤ 1000000 := by have := hroom.1; omega
 have hdi : I64 d := ⟨by omega, by omega⟩
 clear hv hm hW1 hlt hlv hn hroom
 go_enter Tryz.func76, Tryz.ntmps76
 go_upto_region 1 with fail
 rw [HW.out]
 have HL := Lib.hid (zput_any 0 d n 0 [] none 0 0 W1 HM.out hcode (by constructor <;> omega) hdi HN.out (by constructor <;> omega) (IntsM.nil _ _))
 go_wp2_with fail
 with_reducible refine HL.out.mono ?_
 rintro r w3 ⟨rfl, K3, hg3⟩
 have HG9 := Lib.hid (((ZkGo.refl HM.out).next hg3).before HB1.out hsz)
 clear hg3 HL e0 e1 e2 e3 el
 go_wp2_with fail
 first | go_end0 | (refine bodyPost_ret (results_none rfl _ _ _) rfl ?_) | fail
 exact ⟨rfl, _, HG9.out⟩
theorem zinto_11 (n : Int) (v : List Int) (t : List Trm) (c0 c1 c2 c3 : Value) (B base mb : Nat) (K : KV) (X : Nat → Prop) (s : MSt) (d : Int) (W : World)
  (hv : TrmR W B (.mk 11 n v t) [c0, c1, c2, c3]) (hm : ZkIn W B base mb K X s) (hroom : Room s 1) (hd : 0 ≤ d ∧ d ≤ 1900000) :
  Calls Tryz.prog 76 #[.pointer (some ⟨mb, 0, none⟩), .agg #[c0, c1, c2, c3], .int .i64 d, .bool false] W fun r w' => r = .returned (.tuple #[]) ∧ ∃ K', ZkGo B base mb K K' X (s.put ⟨2, d, n, 0, []⟩) W w' := by
 obtain ⟨W1, hW1⟩ : ∃ W1, W.alloc (.cells #[c0, c1, c2, c3] 41) = W1 := ⟨_, rfl⟩
 have hsz := hm.size
 obtain ⟨ov, lv, cvv, ot, lt, ct, rfl, rfl, rfl, rfl, hn, HBX, HM, HT, HV1, HB1, hlt, hlv⟩ := zterm_box W B base mb K X s _ n v t _ _ _ _ hv hm W1 hW1
 have HW := Lib.hid hW1
 have HN := Lib.hid hn
 have e0 := HBX.out.cell 0 rfl
 have e1 := HBX.out.cell 1 rfl
 have e2 := HBX.out.cell 2 rfl
 have e3 := HBX.out.cell 3 rfl
 have el := HBX.out.lt
 have hcode : s.code.length ≤ 1000000 := by have := hroom.1; omega
 have hdi : I64 d := ⟨by omega, by omega⟩
 clear hv hm hW1 hlt hlv hn hroom
 go_enter Tryz.func76, Tryz.ntmps76
 go_upto_region 1 with fail
 rw [HW.out]
 have HL := Lib.hid (zput_any 2 d n 0 [] none 0 0 W1 HM.out hcode (by constructor <;> omega) hdi HN.out (by constructor <;> omega) (IntsM.nil _ _))
 go_wp2_with fail
 with_reducible refine HL.out.mono ?_
 rintro r w3 ⟨rfl, K3, hg3⟩
 have HG9 := Lib.hid (((ZkGo.refl HM.out).next hg3).before HB1.out hsz)
 clear hg3 HL e0 e1 e2 e3 el
 go_wp2_with fail
 first | go_end0 | (refine bodyPost_ret (results_none rfl _ _ _) rfl ?_) | fail
 exact ⟨rfl, _, HG9.out⟩
theorem zinto_13 (n : Int) (v : List Int) (t : List Trm) (c0 c1 c2 c3 : Value) (B base mb : Nat) (K : KV) (X : Nat → Prop) (s : MSt) (d : Int) (W : World)
  (hv : TrmR W B (.mk 13 n v t) [c0, c1, c2, c3]) (hm : ZkIn W B base mb K X s) (hroom : Room s 1) (hd : 0 ≤ d ∧ d ≤ 1900000) :
  Calls Tryz.prog 76 #[.pointer (some ⟨mb, 0, none⟩), .agg #[c0, c1, c2, c3], .int .i64 d, .bool false] W fun r w' => r = .returned (.tuple #[]) ∧ ∃ K', ZkGo B base mb K K' X (s.put ⟨3, d, 0, 0, []⟩) W w' := by
 obtain ⟨W1, hW1⟩ : ∃ W1, W.alloc (.cells #[c0, c1, c2, c3] 41) = W1 := ⟨_, rfl⟩
 have hsz := hm.size
 obtain ⟨ov, lv, cvv, ot, lt, ct, rfl, rfl, rfl, rfl, hn, HBX, HM, HT, HV1, HB1, hlt, hlv⟩ := zterm_box W B base mb K X s _ n v t _ _ _ _ hv hm W1 hW1
 have HW := Lib.hid hW1
 have HN := Lib.hid hn
 have e0 := HBX.out.cell 0 rfl
 have e1 := HBX.out.cell 1 rfl
 have e2 := HBX.out.cell 2 rfl
 have e3 := HBX.out.cell 3 rfl
 have el := HBX.out.lt
 have hcode : s.code.length ≤ 1000000 := by have := hroom.1; omega
 have hdi : I64 d := ⟨by omega, by omega⟩
 clear hv hm hW1 hlt hlv hn hroom
 go_enter Tryz.func76, Tryz.ntmps76
 go_upto_region 1 with fail
 rw [HW.out]
 have HL := Lib.hid (zput_any 3 d 0 0 [] none 0 0 W1 HM.out hcode (by constructor <;> omega) hdi (by constructor <;> omega) (by constructor <;> omega) (IntsM.nil _ _))
 go_wp2_with fail
 with_reducible refine HL.out.mono ?_
 rintro r w3 ⟨rfl, K3, hg3⟩
 have HG9 := Lib.hid (((ZkGo.refl HM.out).next hg3).before HB1.out hsz)
 clear hg3 HL e0 e1 e2 e3 el
 go_wp2_with fail
 first | go_end0 | (refine bodyPost_ret (results_none rfl _ _ _) rfl ?_) | fail
 exact ⟨rfl, _, HG9.out⟩
theorem zinto_21 (n : Int) (v : List Int) (t : List Trm) (c0 c1 c2 c3 : Value) (B base mb : Nat) (K : KV) (X : Nat → Prop) (s : MSt) (d : Int) (W : World)
  (hv : TrmR W B (.mk 21 n v t) [c0, c1, c2, c3]) (hm : ZkIn W B base mb K X s) (hroom : Room s 1) (hd : 0 ≤ d ∧ d ≤ 1900000) :
  Calls Tryz.prog 76 #[.pointer (some ⟨mb, 0, none⟩), .agg #[c0, c1, c2, c3], .int .i64 d, .bool false] W fun r w' => r = .returned (.tuple #[]) ∧ ∃ K', ZkGo B base mb K K' X (s.put ⟨5, d, n, 0, []⟩) W w' := by
 obtain ⟨W1, hW1⟩ : ∃ W1, W.alloc (.cells #[c0, c1, c2, c3] 41) = W1 := ⟨_, rfl⟩
 have hsz := hm.size
 obtain ⟨ov, lv, cvv, ot, lt, ct, rfl, rfl, rfl, rfl, hn, HBX, HM, HT, HV1, HB1, hlt, hlv⟩ := zterm_box W B base mb K X s _ n v t _ _ _ _ hv hm W1 hW1
 have HW := Lib.hid hW1
 have HN := Lib.hid hn
 have e0 := HBX.out.cell 0 rfl
 have e1 := HBX.out.cell 1 rfl
 have e2 := HBX.out.cell 2 rfl
 have e3 := HBX.out.cell 3 rfl
 have el := HBX.out.lt
 have hcode : s.code.length ≤ 1000000 := by have := hroom.1; omega
 have hdi : I64 d := ⟨by omega, by omega⟩
 clear hv hm hW1 hlt hlv hn hroom
 go_enter Tryz.func76, Tryz.ntmps76
 go_upto_region 1 with fail
 rw [HW.out]
 have HL := Lib.hid (zput_any 5 d n 0 [] none 0 0 W1 HM.out hcode (by constructor <;> omega) hdi HN.out (by constructor <;> omega) (IntsM.nil _ _))
 go_wp2_with fail
 with_reducible refine HL.out.mono ?_
 rintro r w3 ⟨rfl, K3, hg3⟩
 have HG9 := Lib.hid (((ZkGo.refl HM.out).next hg3).before HB1.out hsz)
 clear hg3 HL e0 e1 e2 e3 el
 go_wp2_with fail
 first | go_end0 | (refine bodyPost_ret (results_none rfl _ _ _) rfl ?_) | fail
 exact ⟨rfl, _, HG9.out⟩
theorem zinto_20 (n : Int) (v : List Int) (t : List Trm) (c0 c1 c2 c3 : Value) (B base mb : Nat) (K : KV) (X : Nat → Prop) (s : MSt) (d : Int) (W : World)
  (hv : TrmR W B (.mk 20 n v t) [c0, c1, c2, c3]) (hm : ZkIn W B base mb K X s) (hroom : Room s 1) (hd : 0 ≤ d ∧ d ≤ 1900000) :
  Calls Tryz.prog 76 #[.pointer (some ⟨mb, 0, none⟩), .agg #[c0, c1, c2, c3], .int .i64 d, .bool false] W fun r w' => r = .returned (.tuple #[]) ∧ ∃ K', ZkGo B base mb K K' X (s.put ⟨6, d, n, 0, []⟩) W w' := by
 obtain ⟨W1, hW1⟩ : ∃ W1, W.alloc (.cells #[c0, c1, c2, c3] 41) = W1 := ⟨_, rfl⟩
 have hsz := hm.size
 obtain ⟨ov, lv, cvv, ot, lt, ct, rfl, rfl, rfl, rfl, hn, HBX, HM, HT, HV1, HB1, hlt, hlv⟩ := zterm_box W B base mb K X s _ n v t _ _ _ _ hv hm W1 hW1
 have HW := Lib.hid hW1
 have HN := Lib.hid hn
 have e0 := HBX.out.cell 0 rfl
 have e1 := HBX.out.cell 1 rfl
 have e2 := HBX.out.cell 2 rfl
 have e3 := HBX.out.cell 3 rfl
 have el := HBX.out.lt
 have hcode : s.code.length ≤ 1000000 := by have := hroom.1; omega
 have hdi : I64 d := ⟨by omega, by omega⟩
 clear hv hm hW1 hlt hlv hn hroom
 go_enter Tryz.func76, Tryz.ntmps76
 go_upto_region 1 with fail
 rw [HW.out]
 have HL := Lib.hid (zput_any 6 d n 0 [] none 0 0 W1 HM.out hcode (by constructor <;> omega) hdi HN.out (by constructor <;> omega) (IntsM.nil _ _))
 go_wp2_with fail
 with_reducible refine HL.out.mono ?_
 rintro r w3 ⟨rfl, K3, hg3⟩
 have HG9 := Lib.hid (((ZkGo.refl HM.out).next hg3).before HB1.out hsz)
 clear hg3 HL e0 e1 e2 e3 el
 go_wp2_with fail
 first | go_end0 | (refine bodyPost_ret (results_none rfl _ _ _) rfl ?_) | fail
 exact ⟨rfl, _, HG9.out⟩
theorem zinto_1 (n : Int) (v : List Int) (t : List Trm) (c0 c1 c2 c3 : Value) (B base mb : Nat) (K : KV) (X : Nat → Prop) (s : MSt) (d : Int) (W : World)
  (hv : TrmR W B (.mk 1 n v t) [c0, c1, c2, c3]) (hm : ZkIn W B base mb K X s) (hroom : Room s 1) (hd : 0 ≤ d ∧ d ≤ 1900000) :
  Calls Tryz.prog 76 #[.pointer (some ⟨mb, 0, none⟩), .agg #[c0, c1, c2, c3], .int .i64 d, .bool false] W fun r w' => r = .returned (.tuple #[]) ∧ ∃ K', ZkGo B base mb K K' X (s.put ⟨1, d, Mk.lkF s.vars n, 0, []⟩) W w' := by
 obtain ⟨W1, hW1⟩ : ∃ W1, W.alloc (.cells #[c0, c1, c2, c3] 41) = W1 := ⟨_, rfl⟩
 have hsz := hm.size
 obtain ⟨ov, lv, cvv, ot, lt, ct, rfl, rfl, rfl, rfl, hn, HBX, HM, HT, HV1, HB1, hlt, hlv⟩ := zterm_box W B base mb K X s _ n v t _ _ _ _ hv hm W1 hW1
 have HW := Lib.hid hW1
 have HN := Lib.hid hn
 have e0 := HBX.out.cell 0 rfl
 have e1 := HBX.out.cell 1 rfl
 have e2 := HBX.out.cell 2 rfl
 have e3 := HBX.out.cell 3 rfl
 have el := HBX.out.lt
 have hcode : s.code.length ≤ 1000000 := by have := hroom.1; omega
 have hdi : I64 d := ⟨by omega, by omega⟩
 have hrl := hroom.lk Mk.lkF_ok n
 obtain ⟨rg, hrg⟩ : ∃ rg, Mk.lkF s.vars n = rg := ⟨_, rfl⟩
 have HRR := Lib.hid (zregister_any n W1 HM.out rg hrg)
 rw [hrg] at hrl ⊢
 have HRL := Lib.hid hrl
 clear hv hm hW1 hlt hlv hn hroom hrl hrg
 go_enter Tryz.func76, Tryz.ntmps76
 go_upto_region 1 with fail
 rw [HW.out]
 go_wp2_with fail
 with_reducible refine HRR.out.mono ?_
 rintro r w2 ⟨rfl, hb2⟩
 have HG2 := Lib.hid ((ZkGo.refl HM.out).after hb2)
 have HL := Lib.hid (zput_any 1 d rg 0 [] none 0 0 w2 HG2.out.inn hcode (by constructor <;> omega) hdi ⟨by have := HRL.out.1; omega, by have := HRL.out.2; omega⟩ (by constructor <;> omega) (IntsM.nil _ _))
 clear hb2 HRR e0 e1 e2 e3 el
 go_wp2_with fail
 with_reducible refine HL.out.mono ?_
 rintro r w3 ⟨rfl, K3, hg3⟩
 have HG9 := Lib.hid ((HG2.out.next hg3).before HB1.out hsz)
 clear hg3 HL
 go_wp2_with fail
 first | go_end0 | (refine bodyPost_ret (results_none rfl _ _ _) rfl ?_) | fail
 exact ⟨rfl, _, HG9.out⟩
theorem zinto_str (op n : Int) (v : List Int) (t : List Trm) (ht : ZAllC t) (h3 : op ≠ 3) (h6 : op ≠ 6) (h8 : op ≠ 8) (h9 : op ≠ 9) (h0 : op ≠ 0) (h1 : op ≠ 1) (h11 : op ≠ 11) (h13 : op ≠ 13) (h21 : op ≠ 21) (h20 : op ≠ 20) (c0 c1 c2 c3 : Value) (B base mb : Nat) (K : KV) (X : Nat → Prop) (s : MSt) (d : Int) (nc nk : Int) (fr : Bool) (sc : Int → Bool) (W : World)
  (hv : TrmR W B (.mk op n v t) [c0, c1, c2, c3]) (hm : ZkIn W B base mb K X s) (hw : ∀ x ∈ t, Trm.wf nc nk fr x sc = true) (hroom : Room s (2 + 6 * Trm.allL t)) (hst : ∀ (ov ot : Option Addr) (lv cvv lt ct : Nat) (rs : List Int) (ol : Option Addr) (ll cl : Nat) (K : KV) (s : MSt) (W : World), rs.length = t.length → ZkIn W B base mb K X s → IntsM W (fun b => SZ mb K b ∨ X b) rs (.slice ol ll cl) → Room s 2 → Calls Tryz.prog 124 #[.pointer (some ⟨mb, 0, none⟩), .agg #[.int .i64 op, .int .i64 n, .slice ov lv cvv, .slice ot lt ct], .int .i64 d, .slice ol ll cl] W fun r w' => r = .returned (.tuple #[]) ∧ ∃ K', ZkGo B base mb K K' X (Mk.strict op n d rs s) W w') :
  Calls Tryz.prog 76 #[.pointer (some ⟨mb, 0, none⟩), .agg #[c0, c1, c2, c3], .int .i64 d, .bool false] W fun r w' => r = .returned (.tuple #[]) ∧ ∃ K', ZkGo B base mb K K' X (Mk.strict op n d (Mk.allT Mk.lkF t s).1 (Mk.allT Mk.lkF t s).2) W w' := by
 obtain ⟨W1, hW1⟩ : ∃ W1, W.alloc (.cells #[c0, c1, c2, c3] 41) = W1 := ⟨_, rfl⟩
 have hsz := hm.size
 obtain ⟨ov, lv, cvv, ot, lt, ct, rfl, rfl, rfl, rfl, hn, HBX, HM, HT, HV1, HB1, hlt, hlv⟩ := zterm_box W B base mb K X s _ n v t _ _ _ _ hv hm W1 hW1
 have HW := Lib.hid hW1
 have HN := Lib.hid hn
 have f3 : (op == 3) = false := by simpa using h3
 have f6 : (op == 6) = false := by simpa using h6
 have f8 : (op == 8) = false := by simpa using h8
 have f9 : (op == 9) = false := by simpa using h9
 have f0 : (op == 0) = false := by simpa using h0
 have f1 : (op == 1) = false := by simpa using h1
 have f11 : (op == 11) = false := by simpa using h11
 have f13 : (op == 13) = false := by simpa using h13
 have f21 : (op == 21) = false := by simpa using h21
 have f20 : (op == 20) = false := by simpa using h20
 have e0 := HBX.out.cell 0 rfl
 have e1 := HBX.out.cell 1 rfl
 have e2 := HBX.out.cell 2 rfl
 have e3 := HBX.out.cell 3 rfl
 have el := HBX.out.lt
 have HA := Lib.hid (ht (.slice ot lt ct) B base mb K X s nc nk fr sc W1 HT.out HM.out hw (hroom.mono (by omega)))
 have hra := Mk.Room.allT (k := 2) Mk.lkF_ok t s hroom
 have HPL0 := Lib.hid (allT_length Mk.lkF t s)
 obtain ⟨p, hp⟩ : ∃ p, Mk.allT Mk.lkF t s = p := ⟨_, rfl⟩
 rw [hp] at HA hra HPL0
 rw [hp]
 have HRA := Lib.hid hra
 have HST := Lib.hid hst
 clear hv hm hW1 hlt hlv hn hroom hra hp hw ht hst h3 h6 h8 h9 h0 h1 h11 h13 h21 h20
 go_enter Tryz.func76, Tryz.ntmps76
 go_upto_region 1 with fail
 rw [HW.out]
 go_wp2_with fail
 with_reducible refine HA.out.mono ?_
 rintro r w2 ⟨rv, rfl, K2, hg2, hi2⟩
 obtain ⟨ol, ll, cl, rfl⟩ := hi2.1.form
 have HG2 := Lib.hid hg2
 have HBX2 := Lib.hid (HG2.out.box HM.out HBX.out (by decide) (by decide) (by decide))
 have HL := Lib.hid (HST.out ov ot lv cvv lt ct p.1 ol ll cl K2 p.2 w2 HPL0.out HG2.out.inn hi2 HRA.out.1)
 clear hg2 hi2 HA e0 e1 e2 e3 el
 have e0 := HBX2.out.cell 0 rfl
 have e1 := HBX2.out.cell 1 rfl
 have e2 := HBX2.out.cell 2 rfl
 have e3 := HBX2.out.cell 3 rfl
 have el := HBX2.out.lt
 go_wp2_with fail
 with_reducible refine HL.out.mono ?_
 rintro r w3 ⟨rfl, K3, hg3⟩
 have HG9 := Lib.hid ((HG2.out.next hg3).before HB1.out hsz)
 clear hg3 HL e0 e1 e2 e3 el
 go_wp2_with fail
 first | go_end0 | (refine bodyPost_ret (results_none rfl _ _ _) rfl ?_) | fail
 exact ⟨rfl, _, HG9.out⟩
theorem zinto_choice (e : Bool) (n : Int) (v : List Int) (t : List Trm) (c0 c1 c2 c3 : Value) (B base mb : Nat) (K : KV) (X : Nat → Prop) (s : MSt) (S : MSt) (d : Int) (W : World)
  (hv : TrmR W B (.mk 3 n v t) [c0, c1, c2, c3]) (hm : ZkIn W B base mb K X s)
  (hC : ∀ W, TrmR W B (.mk 3 n v t) [c0, c1, c2, c3] → ZkIn W B base mb K X s → Calls Tryz.prog 117 #[.pointer (some ⟨mb, 0, none⟩), .agg #[c0, c1, c2, c3], .int .i64 d, .bool e] W fun r w' => r = .returned (.tuple #[]) ∧ ∃ K', ZkGo B base mb K K' X S W w') :
  Calls Tryz.prog 76 #[.pointer (some ⟨mb, 0, none⟩), .agg #[c0, c1, c2, c3], .int .i64 d, .bool e] W fun r w' => r = .returned (.tuple #[]) ∧ ∃ K', ZkGo B base mb K K' X S W w' := by
 obtain ⟨W1, hW1⟩ : ∃ W1, W.alloc (.cells #[c0, c1, c2, c3] 41) = W1 := ⟨_, rfl⟩
 have hsz := hm.size
 obtain ⟨ov, lv, cvv, ot, lt, ct, rfl, rfl, rfl, rfl, hn, HBX, HM, HT, HV1, HB1, hlt, hlv⟩ := zterm_box W B base mb K X s _ n v t _ _ _ _ hv hm W1 hW1
 have HW := Lib.hid hW1
 have HN := Lib.hid hn
 have e0 := HBX.out.cell 0 rfl
 have e1 := HBX.out.cell 1 rfl
 have e2 := HBX.out.cell 2 rfl
 have e3 := HBX.out.cell 3 rfl
 have el := HBX.out.lt
 have HC := Lib.hid (hC W1 HV1.out HM.out)
 clear hv hm hW1 hlt hlv hn hC
 go_enter Tryz.func76, Tryz.ntmps76
 go_upto_region 1 with fail
 rw [HW.out]
 go_wp2_with fail
 with_reducible refine HC.out.mono ?_
 rintro r w3 ⟨rfl, K3, hg3⟩
 have HG9 := Lib.hid (((ZkGo.refl HM.out).next hg3).before HB1.out hsz)
 clear hg3 HC e0 e1 e2 e3 el
 go_wp2_with fail
 first | go_end0 | (refine bodyPost_ret (results_none rfl _ _ _) rfl ?_) | fail
 exact ⟨rfl, _, HG9.out⟩
theorem zinto_let (e : Bool) (n : Int) (v : List Int) (t : List Trm) (c0 c1 c2 c3 : Value) (B base mb : Nat) (K : KV) (X : Nat → Prop) (s : MSt) (S : MSt) (d : Int) (W : World)
  (hv : TrmR W B (.mk 8 n v t) [c0, c1, c2, c3]) (hm : ZkIn W B base mb K X s)
  (hC : ∀ W, TrmR W B (.mk 8 n v t) [c0, c1, c2, c3] → ZkIn W B base mb K X s → Calls Tryz.prog 119 #[.pointer (some ⟨mb, 0, none⟩), .agg #[c0, c1, c2, c3], .int .i64 d, .bool e] W fun r w' => r = .returned (.tuple #[]) ∧ ∃ K', ZkGo B base mb K K' X S W w') :
  Calls Tryz.prog 76 #[.pointer (some ⟨mb, 0, none⟩), .agg #[c0, c1, c2, c3], .int .i64 d, .bool e] W fun r w' => r = .returned (.tuple #[]) ∧ ∃ K', ZkGo B base mb K K' X S W w' := by
 obtain ⟨W1, hW1⟩ : ∃ W1, W.alloc (.cells #[c0, c1, c2, c3] 41) = W1 := ⟨_, rfl⟩
 have hsz := hm.size
 obtain ⟨ov, lv, cvv, ot, lt, ct, rfl, rfl, rfl, rfl, hn, HBX, HM, HT, HV1, HB1, hlt, hlv⟩ := zterm_box W B base mb K X s _ n v t _ _ _ _ hv hm W1 hW1
 have HW := Lib.hid hW1
 have HN := Lib.hid hn
 have e0 := HBX.out.cell 0 rfl
 have e1 := HBX.out.cell 1 rfl
 have e2 := HBX.out.cell 2 rfl
 have e3 := HBX.out.cell 3 rfl
 have el := HBX.out.lt
 have HC := Lib.hid (hC W1 HV1.out HM.out)
 clear hv hm hW1 hlt hlv hn hC
 go_enter Tryz.func76, Tryz.ntmps76
 go_upto_region 1 with fail
 rw [HW.out]
 go_wp2_with fail
 with_reducible refine HC.out.mono ?_
 rintro r w3 ⟨rfl, K3, hg3⟩
 have HG9 := Lib.hid (((ZkGo.refl HM.out).next hg3).before HB1.out hsz)
 clear hg3 HC e0 e1 e2 e3 el
 go_wp2_with fail
 first | go_end0 | (refine bodyPost_ret (results_none rfl _ _ _) rfl ?_) | fail
 exact ⟨rfl, _, HG9.out⟩
theorem zinto_fix (e : Bool) (n : Int) (v : List Int) (t : List Trm) (c0 c1 c2 c3 : Value) (B base mb : Nat) (K : KV) (X : Nat → Prop) (s : MSt) (S : MSt) (d : Int) (W : World)
  (hv : TrmR W B (.mk 9 n v t) [c0, c1, c2, c3]) (hm : ZkIn W B base mb K X s)
  (hC : ∀ W, TrmR W B (.mk 9 n v t) [c0, c1, c2, c3] → ZkIn W B base mb K X s → Calls Tryz.prog 119 #[.pointer (some ⟨mb, 0, none⟩), .agg #[c0, c1, c2, c3], .int .i64 d, .bool e] W fun r w' => r = .returned (.tuple #[]) ∧ ∃ K', ZkGo B base mb K K' X S W w') :
  Calls Tryz.prog 76 #[.pointer (some ⟨mb, 0, none⟩), .agg #[c0, c1, c2, c3], .int .i64 d, .bool e] W fun r w' => r = .returned (.tuple #[]) ∧ ∃ K', ZkGo B base mb K K' X S W w' := by
 obtain ⟨W1, hW1⟩ : ∃ W1, W.alloc (.cells #[c0, c1, c2, c3] 41) = W1 := ⟨_, rfl⟩
 have hsz := hm.size
 obtain ⟨ov, lv, cvv, ot, lt, ct, rfl, rfl, rfl, rfl, hn, HBX, HM, HT, HV1, HB1, hlt, hlv⟩ := zterm_box W B base mb K X s _ n v t _ _ _ _ hv hm W1 hW1
 have HW := Lib.hid hW1
 have HN := Lib.hid hn
 have e0 := HBX.out.cell 0 rfl
 have e1 := HBX.out.cell 1 rfl
 have e2 := HBX.out.cell 2 rfl
 have e3 := HBX.out.cell 3 rfl
 have el := HBX.out.lt
 have HC := Lib.hid (hC W1 HV1.out HM.out)
 clear hv hm hW1 hlt hlv hn hC
 go_enter Tryz.func76, Tryz.ntmps76
 go_upto_region 1 with fail
 rw [HW.out]
 go_wp2_with fail
 with_reducible refine HC.out.mono ?_
 rintro r w3 ⟨rfl, K3, hg3⟩
 have HG9 := Lib.hid (((ZkGo.refl HM.out).next hg3).before HB1.out hsz)
 clear hg3 HC e0 e1 e2 e3 el
 go_wp2_with fail
 first | go_end0 | (refine bodyPost_ret (results_none rfl _ _ _) rfl ?_) | fail
 exact ⟨rfl, _, HG9.out⟩
theorem zinto_end (op n : Int) (v : List Int) (t : List Trm) (h3 : op ≠ 3) (h6 : op ≠ 6) (h8 : op ≠ 8) (h9 : op ≠ 9) (c0 c1 c2 c3 : Value) (B base mb : Nat) (K : KV) (X : Nat → Prop) (s : MSt) (S : MSt) (d : Int) (W : World)
  (hv : TrmR W B (.mk op n v t) [c0, c1, c2, c3]) (hm : ZkIn W B base mb K X s)
  (hC : ∀ W, TrmR W B (.mk op n v t) [c0, c1, c2, c3] → ZkIn W B base mb K X s → Calls Tryz.prog 120 #[.pointer (some ⟨mb, 0, none⟩), .agg #[c0, c1, c2, c3]] W fun r w' => r = .returned (.tuple #[]) ∧ ∃ K', ZkGo B base mb K K' X S W w') :
  Calls Tryz.prog 76 #[.pointer (some ⟨mb, 0, none⟩), .agg #[c0, c1, c2, c3], .int .i64 d, .bool true] W fun r w' => r = .returned (.tuple #[]) ∧ ∃ K', ZkGo B base mb K K' X S W w' := by
 obtain ⟨W1, hW1⟩ : ∃ W1, W.alloc (.cells #[c0, c1, c2, c3] 41) = W1 := ⟨_, rfl⟩
 have hsz := hm.size
 obtain ⟨ov, lv, cvv, ot, lt, ct, rfl, rfl, rfl, rfl, hn, HBX, HM, HT, HV1, HB1, hlt, hlv⟩ := zterm_box W B base mb K X s _ n v t _ _ _ _ hv hm W1 hW1
 have HW := Lib.hid hW1
 have HN := Lib.hid hn
 have f3 : (op == 3) = false := by simpa using h3
 have f6 : (op == 6) = false := by simpa using h6
 have f8 : (op == 8) = false := by simpa using h8
 have f9 : (op == 9) = false := by simpa using h9
 have e0 := HBX.out.cell 0 rfl
 have e1 := HBX.out.cell 1 rfl
 have e2 := HBX.out.cell 2 rfl
 have e3 := HBX.out.cell 3 rfl
 have el := HBX.out.lt
 have HC := Lib.hid (hC W1 HV1.out HM.out)
 clear hv hm hW1 hlt hlv hn hC h3 h6 h8 h9
 go_enter Tryz.func76, Tryz.ntmps76
 go_upto_region 1 with fail
 rw [HW.out]
 go_wp2_with fail
 with_reducible refine HC.out.mono ?_
 rintro r w3 ⟨rfl, K3, hg3⟩
 have HG9 := Lib.hid (((ZkGo.refl HM.out).next hg3).before HB1.out hsz)
 clear hg3 HC e0 e1 e2 e3 el
 go_wp2_with fail
 first | go_end0 | (refine bodyPost_ret (results_none rfl _ _ _) rfl ?_) | fail
 exact ⟨rfl, _, HG9.out⟩
theorem zinto_seq (e : Bool) (n : Int) (v : List Int) (l : List Trm) (x : Trm) (hl : ∀ y ∈ l, ZHadC y) (hx : ZIntoC e x) (c0 c1 c2 c3 : Value) (B base mb : Nat) (K : KV) (X : Nat → Prop) (s : MSt) (d : Int) (nc nk : Int) (fr : Bool) (sc sc' : Int → Bool) (W : World)
  (hv : TrmR W B (.mk 6 n v (l ++ [x])) [c0, c1, c2, c3]) (hm : ZkIn W B base mb K X s) (hwl : ∀ y ∈ l, Trm.wf nc nk fr y sc = true) (hwx : Trm.wf nc nk fr x sc' = true) (hroom : Room s (6 * Trm.allL (l ++ [x]) + 4)) (hd : 0 ≤ d ∧ d ≤ 1900000) :
  Calls Tryz.prog 76 #[.pointer (some ⟨mb, 0, none⟩), .agg #[c0, c1, c2, c3], .int .i64 d, .bool e] W fun r w' => r = .returned (.tuple #[]) ∧ ∃ K', ZkGo B base mb K K' X (Mk.into Mk.lkF x d e (Mk.allT Mk.lkF l s).2) W w' := by
 obtain ⟨W1, hW1⟩ : ∃ W1, W.alloc (.cells #[c0, c1, c2, c3] 41) = W1 := ⟨_, rfl⟩
 have hsz := hm.size
 obtain ⟨ov, lv, cvv, ot, lt, ct, rfl, rfl, rfl, rfl, hn, HBX, HM, HT, HV1, HB1, hlt, hlv⟩ := zterm_box W B base mb K X s _ n v (l ++ [x]) _ _ _ _ hv hm W1 hW1
 have HW := Lib.hid hW1
 have HN := Lib.hid hn
 have e0 := HBX.out.cell 0 rfl
 have e1 := HBX.out.cell 1 rfl
 have e2 := HBX.out.cell 2 rfl
 have e3 := HBX.out.cell 3 rfl
 have el := HBX.out.lt
 obtain ⟨L, hL⟩ : ∃ L, l.length = L := ⟨_, rfl⟩
 obtain rfl : lt = L + 1 := by rw [hlt, ← hL]; simp
 have HLL := Lib.hid hL
 have hLi : ((L + 1 : Nat) : Int) - 1 = (L : Int) := by omega
 obtain ⟨hltc, hltm⟩ := (SlC.lens HT.out).2
 have HH := Lib.hid hl
 have HX := Lib.hid hx
 have HWL := Lib.hid hwl
 have HWX := Lib.hid hwx
 rw [allL_append, show Trm.allL [x] = x.all by simp [Trm.allL]] at hroom
 have HRO := Lib.hid hroom
 have hxp := x.all_pos
 clear hv hm hW1 hlt hlv hn hL hl hx hwl hwx hroom
 go_enter Tryz.func76, Tryz.ntmps76
 go_upto_region 1 with fail
 rw [HW.out]
 go_wp2_with fail
 go_loopg [9] L (fun g i wr => ∃ (j : Nat) (K' : KV), g = L - j ∧ i = .int .i64 j ∧ j ≤ L ∧ Hid (ZkGo B base mb K K' X (Mk.allT Mk.lkF (l.take j) s).2 W1 wr))
 case atStart => exact ⟨0, K, rfl, rfl, by omega, Lib.hid (by simpa [Mk.allT] using ZkGo.refl HM.out)⟩
 case round =>
  obtain ⟨j, K', rfl, rfl, hj, HG⟩ := hrel
  clear e0 e1 e2 e3 el
  have HBX2 := Lib.hid (HG.out.box HM.out HBX.out (by decide) (by decide) (by decide))
  have e3 := HBX2.out.cell 3 rfl
  have el := HBX2.out.lt
  by_cases hjl : j < L
  ·obtain ⟨y, hy⟩ : ∃ y, l[j]? = some y := ⟨_, List.getElem?_eq_getElem (by rw [HLL.out]; exact hjl)⟩
   obtain ⟨zb, zoff, z0, z1, z2, z3, hzo, hpz⟩ := TrmS.part (TrmS.kept HT.out HG.out.low) (i := j) (x := y) (by rw [List.getElem?_append_left (by rw [HLL.out]; exact hjl)]; exact hy)
   subst hzo
   obtain ⟨qa, qb, qc, qd, qe, qf, rfl, rfl, rfl, rfl, _⟩ := TrmR.shape hpz.r
   have hrm := Room.allT (k := 6 * y.all) Mk.lkF_ok (l.take j) s (HRO.out.mono (by have := allL_snoc hy; have := allLT_take l (j + 1); omega))
   have HC := Lib.hid (HH.out y (List.mem_of_getElem? hy) _ _ _ _ B base mb K' X (Mk.allT Mk.lkF (l.take j) s).2 nc nk fr sc wr hpz.r HG.out.inn (HWL.out y (List.mem_of_getElem? hy)) (hrm.1.mono (by omega)))
   have HTK := Lib.hid (allT_snoc Mk.lkF hy s)
   obtain ⟨q, hq⟩ : ∃ q, Mk.had Mk.lkF y (Mk.allT Mk.lkF (l.take j) s).2 = q := ⟨_, rfl⟩
   rw [hq] at HC HTK
   have q0 := hpz.e0
   have q1 := hpz.e1
   have q2 := hpz.e2
   have q3 := hpz.e3
   have ql := hpz.size
   have hjt : j < L + 1 := by omega
   clear hrm hq hy hpz
   go_wp2_with fail
   with_reducible refine HC.out.mono ?_
   rintro r w2 ⟨rfl, K2, hg2⟩
   have HG2 := Lib.hid (show ZkGo B base mb K K2 X (Mk.allT Mk.lkF (l.take (j + 1)) s).2 W1 w2 from by rw [HTK.out]; exact HG.out.next hg2)
   clear hg2 HC q0 q1 q2 q3 ql e3 el
   go_wp2_with fail
   go_roundg (L - (j + 1))
   case measure => omega
   case rel => exact ⟨j + 1, K2, rfl, by go_num, by omega, HG2⟩
  ·obtain rfl : j = L := by omega
   have HE := Lib.hid (show l.take j = l from List.take_of_length_le (by rw [HLL.out]; exact Nat.le_refl _))
   have hg := HG.out
   rw [HE.out] at hg
   have hra := Room.allT (k := 6 * x.all + 4) Mk.lkF_ok l s (HRO.out.mono (by omega))
   obtain ⟨p, hp⟩ : ∃ p, Mk.allT Mk.lkF l s = p := ⟨_, rfl⟩
   rw [hp] at hg hra
   have HP := Lib.hid hp
   have HG5 := Lib.hid hg
   have HRA := Lib.hid hra.1
   clear hg hra hp
   obtain ⟨tb, off, x0, x1, x2, x3, hto, hpx⟩ := TrmS.part HT.out (i := j) (x := x) (by rw [← HLL.out]; simp)
   subst hto
   have HPX5 := Lib.hid (hpx.kept HG5.out.low)
   obtain ⟨qa, qb, qc, qd, qe, qf, rfl, rfl, rfl, rfl, _⟩ := TrmR.shape HPX5.out.r
   have HI := Lib.hid (HX.out _ _ _ _ B base mb K' X _ d nc nk fr sc' wr HPX5.out.r HG5.out.inn HWX.out (HRA.out.mono (by omega)) hd)
   have q0 := HPX5.out.e0
   have q1 := HPX5.out.e1
   have q2 := HPX5.out.e2
   have q3 := HPX5.out.e3
   have ql := HPX5.out.size
   clear hpx
   go_wp2_with fail
   with_reducible refine HI.out.mono ?_
   rintro r w6 ⟨rfl, K6, hg6⟩
   have HG9 := Lib.hid ((HG5.out.next hg6).before HB1.out hsz)
   clear hg6 HI e3 el q0 q1 q2 q3 ql
   go_wp2_with fail
   first | go_end0 | (refine bodyPost_ret (results_none rfl _ _ _) rfl ?_) | fail
   exact ⟨rfl, _, by rw [HP.out]; exact HG9.out⟩
theorem zlast_5 (n : Int) (v : List Int) (t : List Trm) (ht : ZAllC t) (hct0 : 1 ≤ t.length) (c0 c1 c2 c3 : Value) (B base mb : Nat) (K : KV) (X : Nat → Prop) (s : MSt) (nc nk : Int) (fr : Bool) (sc : Int → Bool) (W : World)
  (hv : TrmR W B (.mk 5 n v t) [c0, c1, c2, c3]) (hm : ZkIn W B base mb K X s) (hw : ∀ x ∈ t, Trm.wf nc nk fr x sc = true) (hroom : Room s (2 + 6 * Trm.allL t)) :
  Calls Tryz.prog 120 #[.pointer (some ⟨mb, 0, none⟩), .agg #[c0, c1, c2, c3]] W fun r w' => r = .returned (.tuple #[]) ∧ ∃ K', ZkGo B base mb K K' X (Mk.ended 5 n (Mk.allT Mk.lkF t s).1 (Mk.allT Mk.lkF t s).2) W w' := by
 obtain ⟨W1, hW1⟩ : ∃ W1, W.alloc (.cells #[c0, c1, c2, c3] 41) = W1 := ⟨_, rfl⟩
 have hsz := hm.size
 obtain ⟨ov, lv, cvv, ot, lt, ct, rfl, rfl, rfl, rfl, hn, HBX, HM, HT, HV1, HB1, hlt, hlv⟩ := zterm_box W B base mb K X s _ n v t _ _ _ _ hv hm W1 hW1
 have HW := Lib.hid hW1
 have HN := Lib.hid hn
 have e0 := HBX.out.cell 0 rfl
 have e1 := HBX.out.cell 1 rfl
 have e2 := HBX.out.cell 2 rfl
 have e3 := HBX.out.cell 3 rfl
 have el := HBX.out.lt
 have HA := Lib.hid (ht (.slice ot lt ct) B base mb K X s nc nk fr sc W1 HT.out HM.out hw (hroom.mono (by omega)))
 have hra := Mk.Room.allT (k := 2) Mk.lkF_ok t s hroom
 have hrs := allT_length Mk.lkF t s
 obtain ⟨⟨rs, s2⟩, hp⟩ : ∃ p, Mk.allT Mk.lkF t s = p := ⟨_, rfl⟩
 rw [hp] at HA hra hrs
 rw [hp]
 dsimp only at HA hra hrs ⊢
 have HRA := Lib.hid hra
 have hcode : s2.code.length ≤ 1000000 := by have := hra.1.1; omega
 have hct : 1 ≤ rs.length := by omega
 clear hv hm hW1 hlt hlv hn hroom hra hp hw ht hrs
 go_enter Tryz.func120, Tryz.ntmps120
 go_upto_region 1 with fail
 rw [HW.out]
 go_wp2_with fail
 with_reducible refine HA.out.mono ?_
 rintro r w2 ⟨rv, rfl, K2, hg2, hi2⟩
 obtain ⟨ol, ll, cl, rfl⟩ := hi2.1.form
 have HG2 := Lib.hid hg2
 have HI1 := Lib.hid hi2
 have HBX2 := Lib.hid (HG2.out.box HM.out HBX.out (by decide) (by decide) (by decide))
 obtain ⟨hll, hlc, hlm⟩ := HI1.out.1.lens
 clear hg2 hi2 HA e0 e1 e2 e3 el
 have e0 := HBX2.out.cell 0 rfl
 have e1 := HBX2.out.cell 1 rfl
 have el := HBX2.out.lt
 obtain ⟨r0, rl, rfl⟩ : ∃ r0 rl, rs = r0 :: rl := by
  cases rs with
  | nil => simp at hct
  | cons a b => exact ⟨a, b, rfl⟩
 obtain ⟨gb, goff, hgo, hgb, hgc, hri⟩ := SlC.int (j := 0) HI1.out.1 (x := r0) rfl
 subst hgo
 have hgl := cell_lt hgc
 rw [Nat.add_zero] at hgc
 simp only [List.length_cons] at hll
 subst hll
 have HRI := Lib.hid hri
 clear hri
 go_upto_region 6 with fail
 by_cases hcl1 : cl = 1
 ·subst hcl1
  have HDR := Lib.hid (IntsM.rest1 HI1.out)
  have HDL := Lib.hid (fun (W3 : World) (hb : Below w2.heap.size w2 W3) => zput_any 19 0 r0 0 rl (some ⟨gb, goff, none⟩) 0 0 W3 (HG2.out.inn.keep hb) hcode (by constructor <;> omega) (by constructor <;> omega) HRI.out (by constructor <;> omega) (HDR.out.below hb))
  have HD := Lib.hid ((Below.refl w2.heap.size w2).drew)
  refine wp_region_quiet_class (Below w2.heap.size w2) 7 (by kernel_rfl) (by kernel_rfl) HD.out ?_
  intro T0 _ WW HWW HWW2
  have z0 : ∀ t, (WW t).cell? _ = _ := fun t => ((HWW t).cell (p := ⟨gb, goff, none⟩) hgl).trans hgc
  have HWH := Lib.hid HWW
  clear HWW HWW2
  simp only [List.take_succ_cons, List.take_zero, List.drop_succ_cons, List.drop_zero]
  repeat (go_big_quiet_step (fail))
  refine wpQuiet_nil ?_
  intro t'
  obtain ⟨W3, hW3⟩ : ∃ W3, WW t' = W3 := ⟨_, rfl⟩
  have HB3 := Lib.hid (show Below w2.heap.size w2 W3 from hW3 ▸ HWH.out t')
  rw [hW3]
  clear z0 hW3 HWH
  have HL := Lib.hid (HDL.out W3 HB3.out)
  clear e0 e1 el
  go_wp2_with fail
  with_reducible refine HL.out.mono ?_
  rintro r w3 ⟨rfl, K3, hg3⟩
  have HG9 := Lib.hid (((HG2.out.after HB3.out).next hg3).before HB1.out hsz)
  clear hg3 HL hgc hgl
  go_wp2_with fail
  first | go_end0 | (refine bodyPost_ret (results_none rfl _ _ _) rfl ?_) | fail
  exact ⟨rfl, _, HG9.out⟩
 ·have hcl2 : 1 < cl := by omega
  have HDR := Lib.hid (IntsM.rest2 HI1.out hcl1)
  have HDL := Lib.hid (fun (W3 : World) (hb : Below w2.heap.size w2 W3) => zput_any 19 0 r0 0 rl (some ⟨gb, goff + 1, none⟩) rl.length (cl - 1) W3 (HG2.out.inn.keep hb) hcode (by constructor <;> omega) (by constructor <;> omega) HRI.out (by constructor <;> omega) (HDR.out.below hb))
  have HD := Lib.hid ((Below.refl w2.heap.size w2).drew)
  refine wp_region_quiet_class (Below w2.heap.size w2) 7 (by kernel_rfl) (by kernel_rfl) HD.out ?_
  intro T0 _ WW HWW HWW2
  have z0 : ∀ t, (WW t).cell? _ = _ := fun t => ((HWW t).cell (p := ⟨gb, goff, none⟩) hgl).trans hgc
  have HWH := Lib.hid HWW
  clear HWW HWW2
  simp only [List.take_succ_cons, List.take_zero, List.drop_succ_cons, List.drop_zero]
  repeat (go_big_quiet_step (fail))
  refine wpQuiet_nil ?_
  intro t'
  obtain ⟨W3, hW3⟩ : ∃ W3, WW t' = W3 := ⟨_, rfl⟩
  have HB3 := Lib.hid (show Below w2.heap.size w2 W3 from hW3 ▸ HWH.out t')
  rw [hW3]
  clear z0 hW3 HWH
  have HL := Lib.hid (HDL.out W3 HB3.out)
  clear e0 e1 el
  go_wp2_with fail
  with_reducible refine HL.out.mono ?_
  rintro r w3 ⟨rfl, K3, hg3⟩
  have HG9 := Lib.hid (((HG2.out.after HB3.out).next hg3).before HB1.out hsz)
  clear hg3 HL hgc hgl
  go_wp2_with fail
  first | go_end0 | (refine bodyPost_ret (results_none rfl _ _ _) rfl ?_) | fail
  exact ⟨rfl, _, HG9.out⟩
theorem zlast_22 (n : Int) (v : List Int) (t : List Trm) (ht : ZAllC t) (hct0 : 1 ≤ t.length) (c0 c1 c2 c3 : Value) (B base mb : Nat) (K : KV) (X : Nat → Prop) (s : MSt) (nc nk : Int) (fr : Bool) (sc : Int → Bool) (W : World)
  (hv : TrmR W B (.mk 22 n v t) [c0, c1, c2, c3]) (hm : ZkIn W B base mb K X s) (hw : ∀ x ∈ t, Trm.wf nc nk fr x sc = true) (hroom : Room s (2 + 6 * Trm.allL t)) :
  Calls Tryz.prog 120 #[.pointer (some ⟨mb, 0, none⟩), .agg #[c0, c1, c2, c3]] W fun r w' => r = .returned (.tuple #[]) ∧ ∃ K', ZkGo B base mb K K' X (Mk.ended 22 n (Mk.allT Mk.lkF t s).1 (Mk.allT Mk.lkF t s).2) W w' := by
 obtain ⟨W1, hW1⟩ : ∃ W1, W.alloc (.cells #[c0, c1, c2, c3] 41) = W1 := ⟨_, rfl⟩
 have hsz := hm.size
 obtain ⟨ov, lv, cvv, ot, lt, ct, rfl, rfl, rfl, rfl, hn, HBX, HM, HT, HV1, HB1, hlt, hlv⟩ := zterm_box W B base mb K X s _ n v t _ _ _ _ hv hm W1 hW1
 have HW := Lib.hid hW1
 have HN := Lib.hid hn
 have e0 := HBX.out.cell 0 rfl
 have e1 := HBX.out.cell 1 rfl
 have e2 := HBX.out.cell 2 rfl
 have e3 := HBX.out.cell 3 rfl
 have el := HBX.out.lt
 have HA := Lib.hid (ht (.slice ot lt ct) B base mb K X s nc nk fr sc W1 HT.out HM.out hw (hroom.mono (by omega)))
 have hra := Mk.Room.allT (k := 2) Mk.lkF_ok t s hroom
 have hrs := allT_length Mk.lkF t s
 obtain ⟨⟨rs, s2⟩, hp⟩ : ∃ p, Mk.allT Mk.lkF t s = p := ⟨_, rfl⟩
 rw [hp] at HA hra hrs
 rw [hp]
 dsimp only at HA hra hrs ⊢
 have HRA := Lib.hid hra
 have hcode : s2.code.length ≤ 1000000 := by have := hra.1.1; omega
 have hct : 1 ≤ rs.length := by omega
 clear hv hm hW1 hlt hlv hn hroom hra hp hw ht hrs
 go_enter Tryz.func120, Tryz.ntmps120
 go_upto_region 1 with fail
 rw [HW.out]
 go_wp2_with fail
 with_reducible refine HA.out.mono ?_
 rintro r w2 ⟨rv, rfl, K2, hg2, hi2⟩
 obtain ⟨ol, ll, cl, rfl⟩ := hi2.1.form
 have HG2 := Lib.hid hg2
 have HI1 := Lib.hid hi2
 have HBX2 := Lib.hid (HG2.out.box HM.out HBX.out (by decide) (by decide) (by decide))
 obtain ⟨hll, hlc, hlm⟩ := HI1.out.1.lens
 clear hg2 hi2 HA e0 e1 e2 e3 el
 have e0 := HBX2.out.cell 0 rfl
 have e1 := HBX2.out.cell 1 rfl
 have el := HBX2.out.lt
 obtain ⟨r0, rl, rfl⟩ : ∃ r0 rl, rs = r0 :: rl := by
  cases rs with
  | nil => simp at hct
  | cons a b => exact ⟨a, b, rfl⟩
 obtain ⟨gb, goff, hgo, hgb, hgc, hri⟩ := SlC.int (j := 0) HI1.out.1 (x := r0) rfl
 subst hgo
 have hgl := cell_lt hgc
 rw [Nat.add_zero] at hgc
 simp only [List.length_cons] at hll
 subst hll
 have HRI := Lib.hid hri
 clear hri
 go_upto_region 8 with fail
 by_cases hcl1 : cl = 1
 ·subst hcl1
  have HDR := Lib.hid (IntsM.rest1 HI1.out)
  have HDL := Lib.hid (fun (W3 : World) (hb : Below w2.heap.size w2 W3) => zput_any 20 0 n r0 rl (some ⟨gb, goff, none⟩) 0 0 W3 (HG2.out.inn.keep hb) hcode (by constructor <;> omega) (by constructor <;> omega) HN.out HRI.out (HDR.out.below hb))
  have HD := Lib.hid ((Below.refl w2.heap.size w2).drew)
  refine wp_region_quiet_class (Below w2.heap.size w2) 9 (by kernel_rfl) (by kernel_rfl) HD.out ?_
  intro T0 _ WW HWW HWW2
  have z0 : ∀ t, (WW t).cell? _ = _ := fun t => ((HWW t).cell (p := ⟨gb, goff, none⟩) hgl).trans hgc
  have z1 : ∀ t, (WW t).cell? _ = _ := fun t => ((HWW t).cell (p := ⟨W.heap.size, 1, none⟩) el).trans e1
  have HWH := Lib.hid HWW
  clear HWW HWW2
  simp only [List.take_succ_cons, List.take_zero, List.drop_succ_cons, List.drop_zero]
  repeat (go_big_quiet_step (fail))
  refine wpQuiet_nil ?_
  intro t'
  obtain ⟨W3, hW3⟩ : ∃ W3, WW t' = W3 := ⟨_, rfl⟩
  have HB3 := Lib.hid (show Below w2.heap.size w2 W3 from hW3 ▸ HWH.out t')
  rw [hW3]
  clear z0 z1 hW3 HWH
  have HL := Lib.hid (HDL.out W3 HB3.out)
  clear e0 e1 el
  go_wp2_with fail
  with_reducible refine HL.out.mono ?_
  rintro r w3 ⟨rfl, K3, hg3⟩
  have HG9 := Lib.hid (((HG2.out.after HB3.out).next hg3).before HB1.out hsz)
  clear hg3 HL hgc hgl
  go_wp2_with fail
  first | go_end0 | (refine bodyPost_ret (results_none rfl _ _ _) rfl ?_) | fail
  exact ⟨rfl, _, HG9.out⟩
 ·have hcl2 : 1 < cl := by omega
  have HDR := Lib.hid (IntsM.rest2 HI1.out hcl1)
  have HDL := Lib.hid (fun (W3 : World) (hb : Below w2.heap.size w2 W3) => zput_any 20 0 n r0 rl (some ⟨gb, goff + 1, none⟩) rl.length (cl - 1) W3 (HG2.out.inn.keep hb) hcode (by constructor <;> omega) (by constructor <;> omega) HN.out HRI.out (HDR.out.below hb))
  have HD := Lib.hid ((Below.refl w2.heap.size w2).drew)
  refine wp_region_quiet_class (Below w2.heap.size w2) 9 (by kernel_rfl) (by kernel_rfl) HD.out ?_
  intro T0 _ WW HWW HWW2
  have z0 : ∀ t, (WW t).cell? _ = _ := fun t => ((HWW t).cell (p := ⟨gb, goff, none⟩) hgl).trans hgc
  have z1 : ∀ t, (WW t).cell? _ = _ := fun t => ((HWW t).cell (p := ⟨W.heap.size, 1, none⟩) el).trans e1
  have HWH := Lib.hid HWW
  clear HWW HWW2
  simp only [List.take_succ_cons, List.take_zero, List.drop_succ_cons, List.drop_zero]
  repeat (go_big_quiet_step (fail))
  refine wpQuiet_nil ?_
  intro t'
  obtain ⟨W3, hW3⟩ : ∃ W3, WW t' = W3 := ⟨_, rfl⟩
  have HB3 := Lib.hid (show Below w2.heap.size w2 W3 from hW3 ▸ HWH.out t')
  rw [hW3]
  clear z0 z1 hW3 HWH
  have HL := Lib.hid (HDL.out W3 HB3.out)
  clear e0 e1 el
  go_wp2_with fail
  with_reducible refine HL.out.mono ?_
  rintro r w3 ⟨rfl, K3, hg3⟩
  have HG9 := Lib.hid (((HG2.out.after HB3.out).next hg3).before HB1.out hsz)
  clear hg3 HL hgc hgl
  go_wp2_with fail
  first | go_end0 | (refine bodyPost_ret (results_none rfl _ _ _) rfl ?_) | fail
  exact ⟨rfl, _, HG9.out⟩
theorem zlast_10 (n : Int) (v : List Int) (t : List Trm) (ht : ZAllC t) (hn29 : 29 ≤ n) (c0 c1 c2 c3 : Value) (B base mb : Nat) (K : KV) (X : Nat → Prop) (s : MSt) (nc nk : Int) (fr : Bool) (sc : Int → Bool) (W : World)
  (hv : TrmR W B (.mk 10 n v t) [c0, c1, c2, c3]) (hm : ZkIn W B base mb K X s) (hw : ∀ x ∈ t, Trm.wf nc nk fr x sc = true) (hroom : Room s (2 + 6 * Trm.allL t)) :
  Calls Tryz.prog 120 #[.pointer (some ⟨mb, 0, none⟩), .agg #[c0, c1, c2, c3]] W fun r w' => r = .returned (.tuple #[]) ∧ ∃ K', ZkGo B base mb K K' X (Mk.ended 10 n (Mk.allT Mk.lkF t s).1 (Mk.allT Mk.lkF t s).2) W w' := by
 obtain ⟨W1, hW1⟩ : ∃ W1, W.alloc (.cells #[c0, c1, c2, c3] 41) = W1 := ⟨_, rfl⟩
 have hsz := hm.size
 obtain ⟨ov, lv, cvv, ot, lt, ct, rfl, rfl, rfl, rfl, hn, HBX, HM, HT, HV1, HB1, hlt, hlv⟩ := zterm_box W B base mb K X s _ n v t _ _ _ _ hv hm W1 hW1
 have HW := Lib.hid hW1
 have HN := Lib.hid hn
 have e0 := HBX.out.cell 0 rfl
 have e1 := HBX.out.cell 1 rfl
 have e2 := HBX.out.cell 2 rfl
 have e3 := HBX.out.cell 3 rfl
 have el := HBX.out.lt
 have HA := Lib.hid (ht (.slice ot lt ct) B base mb K X s nc nk fr sc W1 HT.out HM.out hw (hroom.mono (by omega)))
 have hra := Mk.Room.allT (k := 2) Mk.lkF_ok t s hroom
 have hrs := allT_length Mk.lkF t s
 obtain ⟨⟨rs, s2⟩, hp⟩ : ∃ p, Mk.allT Mk.lkF t s = p := ⟨_, rfl⟩
 rw [hp] at HA hra hrs
 rw [hp]
 dsimp only at HA hra hrs ⊢
 have HRA := Lib.hid hra
 have hcode : s2.code.length ≤ 1000000 := by have := hra.1.1; omega
 have g29 : decide (29 ≤ n) = true := decide_eq_true hn29
 clear hv hm hW1 hlt hlv hn hroom hra hp hw ht hrs hn29
 go_enter Tryz.func120, Tryz.ntmps120
 go_upto_region 1 with fail
 rw [HW.out]
 go_wp2_with fail
 with_reducible refine HA.out.mono ?_
 rintro r w2 ⟨rv, rfl, K2, hg2, hi2⟩
 obtain ⟨ol, ll, cl, rfl⟩ := hi2.1.form
 have HG2 := Lib.hid hg2
 have HI1 := Lib.hid hi2
 have HBX2 := Lib.hid (HG2.out.box HM.out HBX.out (by decide) (by decide) (by decide))
 obtain ⟨hll, hlc, hlm⟩ := HI1.out.1.lens
 clear hg2 hi2 HA e0 e1 e2 e3 el
 have e0 := HBX2.out.cell 0 rfl
 have e1 := HBX2.out.cell 1 rfl
 have el := HBX2.out.lt
 clear hll
 have HL := Lib.hid (zput_any 21 0 n 0 rs ol ll cl w2 HG2.out.inn hcode (by constructor <;> omega) (by constructor <;> omega) HN.out (by constructor <;> omega) HI1.out)
 go_wp2_with fail
 with_reducible refine HL.out.mono ?_
 rintro r w3 ⟨rfl, K3, hg3⟩
 have HG9 := Lib.hid ((HG2.out.next hg3).before HB1.out hsz)
 clear hg3 HL e0 e1 el
 go_wp2_with fail
 first | go_end0 | (refine bodyPost_ret (results_none rfl _ _ _) rfl ?_) | fail
 exact ⟨rfl, _, HG9.out⟩
def ZIntoR (r : Nat) (e : Bool) (x : Trm) : Prop := ∀ (c0 c1 c2 c3 : Value) (B base mb : Nat) (K : KV) (X : Nat → Prop) (s : MSt) (d : Int) (nc nk : Int) (fr : Bool) (sc : Int → Bool) (W : World), TrmR W B x [c0, c1, c2, c3] → ZkIn W B base mb K X s → Trm.wf nc nk fr x sc = true → Room s r → 0 ≤ d ∧ d ≤ 1900000 →
 Calls Tryz.prog 76 #[.pointer (some ⟨mb, 0, none⟩), .agg #[c0, c1, c2, c3], .int .i64 d, .bool e] W fun q w' => q = .returned (.tuple #[]) ∧ ∃ K', ZkGo B base mb K K' X (Mk.into Mk.lkF x d e s) W w'
def ZHadR (r : Nat) (x : Trm) : Prop := ∀ (c0 c1 c2 c3 : Value) (B base mb : Nat) (K : KV) (X : Nat → Prop) (s : MSt) (nc nk : Int) (fr : Bool) (sc : Int → Bool) (W : World), TrmR W B x [c0, c1, c2, c3] → ZkIn W B base mb K X s → Trm.wf nc nk fr x sc = true → Room s r →
 Calls Tryz.prog 118 #[.pointer (some ⟨mb, 0, none⟩), .agg #[c0, c1, c2, c3]] W fun q w' => q = .returned (.int .i64 (Mk.had Mk.lkF x s).1) ∧ ∃ K', ZkGo B base mb K K' X (Mk.had Mk.lkF x s).2 W w'
theorem zhad_anyR (r : Nat) (x : Trm) (hx : ZIntoR r false x) : ZHadR (r + 1) x := by
 intro c0 c1 c2 c3 B base mb K X s nc nk fr sc W hv hm hw hroom
 have hroom2 := Room.mono hroom (k' := 1) (by omega)
 obtain ⟨W1, hW1⟩ : ∃ W1, W.alloc (.cells #[c0, c1, c2, c3] 41) = W1 := ⟨_, rfl⟩
 have HB1 := Lib.hid (show Below W.heap.size W W1 from by rw [← hW1]; exact Below.one W _)
 have HBX := Lib.hid (show BoxL W1 W.heap.size 41 [c0, c1, c2, c3] from by rw [← hW1]; exact BoxL.new rfl _ _)
 have HM := Lib.hid (hm.keep HB1.out)
 have hsz := hm.size
 have HV := Lib.hid (TrmR.kept (HB1.out.mono hm.size) _ _ hv)
 have HW := Lib.hid hW1
 have HX := Lib.hid hx
 have HLT := Lib.hid hm.st.lt
 obtain ⟨op, n, v, t⟩ := x
 obtain ⟨ov, lv, cvv, ot, lt, ct, rfl, rfl, rfl, rfl, hn⟩ := TrmR.shape hv
 dsimp only [Trm.op, Trm.n] at *
 have x0 := HBX.out.cell 0 rfl
 have x1 := HBX.out.cell 1 rfl
 have x2 := HBX.out.cell 2 rfl
 have x3 := HBX.out.cell 3 rfl
 have xl := HBX.out.lt
 by_cases h1 : op = 1
 ·subst h1
  have hpost : (Mk.had Mk.lkF (.mk 1 n v t) s) = (Mk.lkF s.vars n, s) := by simp [Mk.had, Mk.hadW, Trm.op, Trm.n]
  rw [hpost]
  have HRG := Lib.hid (zregister_any n W1 HM.out _ rfl)
  clear hv hm hx hW1 hw hroom hpost
  go_enter Tryz.func118, Tryz.ntmps118
  go_upto_region 2 with fail
  rw [HW.out]
  go_wp2_with fail
  with_reducible refine HRG.out.mono ?_
  rintro e w2 ⟨rfl, hb2⟩
  have HB2 := Lib.hid hb2
  clear hb2 x0 x1 x2 x3 xl
  go_wp2_with fail
  go_ret
  exact ⟨rfl, K, ((ZkGo.refl HM.out).after HB2.out).before HB1.out hsz⟩
 ·have f1 : (op == 1) = false := by simpa using h1
  have hpost : (Mk.had Mk.lkF (.mk op n v t) s) = (s.regs, Mk.into Mk.lkF (.mk op n v t) s.regs false s.fresh) := if_neg h1
  rw [hpost]
  have HF := Lib.hid (zfresh_any W1 HM.out hroom2)
  have hro := Lib.hid hroom
  have hall := (Trm.mk op n v t).all_pos
  have hwf := Lib.hid hw
  clear hv hm hx hW1 hw hroom hpost
  go_enter Tryz.func118, Tryz.ntmps118
  go_upto_region 3 with fail
  rw [HW.out]
  go_wp2_with fail
  refine HF.out.mono ?_
  rintro e w2 ⟨rfl, hg⟩
  have HG := Lib.hid hg
  have HBX2 := Lib.hid (HG.out.turned.box HBX.out (fun hs => Nat.lt_irrefl _ (HLT.out _ hs)))
  have HI := Lib.hid (HX.out _ _ _ _ B base mb K X s.fresh s.regs nc nk fr sc w2 (TrmR.kept HG.out.low _ _ HV.out) HG.out.inn hwf.out (Room.fresh (hro.out.mono (by omega))) ⟨hro.out.2.1, by have := hro.out.2.2.1; omega⟩)
  clear x0 x1 x2 x3 xl hg
  have x0 := HBX2.out.cell 0 rfl
  have x1 := HBX2.out.cell 1 rfl
  have x2 := HBX2.out.cell 2 rfl
  have x3 := HBX2.out.cell 3 rfl
  have xl := HBX2.out.lt
  go_wp2_with fail
  refine HI.out.mono ?_
  rintro e w3 ⟨rfl, K', hg⟩
  have HG3 := Lib.hid ((HG.out.next hg).before HB1.out hsz)
  clear hg x0 x1 x2 x3 xl
  go_wp2_with fail
  go_ret
  exact ⟨rfl, _, HG3.out⟩
theorem zlast_else (rm : Nat) (op n : Int) (v : List Int) (t : List Trm) (hx : ZHadR rm (.mk op n v t)) (h5 : op ≠ 5) (h22 : op ≠ 22) (h10 : op ≠ 10 ∨ n < 29) (c0 c1 c2 c3 : Value) (B base mb : Nat) (K : KV) (X : Nat → Prop) (s : MSt) (nc nk : Int) (fr : Bool) (sc : Int → Bool) (W : World)
  (hv : TrmR W B (.mk op n v t) [c0, c1, c2, c3]) (hm : ZkIn W B base mb K X s) (hw : Trm.wf nc nk fr (.mk op n v t) sc = true) (hroom : Room s rm) (hrh : Room (Mk.had Mk.lkF (.mk op n v t) s).2 1 ∧ 0 ≤ (Mk.had Mk.lkF (.mk op n v t) s).1 ∧ (Mk.had Mk.lkF (.mk op n v t) s).1 ≤ 1900000) :
  Calls Tryz.prog 120 #[.pointer (some ⟨mb, 0, none⟩), .agg #[c0, c1, c2, c3]] W fun r w' => r = .returned (.tuple #[]) ∧ ∃ K', ZkGo B base mb K K' X ((Mk.had Mk.lkF (.mk op n v t) s).2.put ⟨22, 0, (Mk.had Mk.lkF (.mk op n v t) s).1, 0, []⟩) W w' := by
 obtain ⟨W1, hW1⟩ : ∃ W1, W.alloc (.cells #[c0, c1, c2, c3] 41) = W1 := ⟨_, rfl⟩
 have hsz := hm.size
 obtain ⟨ov, lv, cvv, ot, lt, ct, rfl, rfl, rfl, rfl, hn, HBX, HM, HT, HV1, HB1, hlt, hlv⟩ := zterm_box W B base mb K X s _ n v t _ _ _ _ hv hm W1 hW1
 have HW := Lib.hid hW1
 have HN := Lib.hid hn
 have HX := Lib.hid (hx _ _ _ _ B base mb K X s nc nk fr sc W1 HV1.out HM.out hw hroom)
 obtain ⟨q, hq⟩ : ∃ q, Mk.had Mk.lkF (.mk op n v t) s = q := ⟨_, rfl⟩
 rw [hq] at hrh
 rw [hq] at HX ⊢
 have HRH := Lib.hid hrh
 have f5 : (op == 5) = false := by simpa using h5
 have f22 : (op == 22) = false := by simpa using h22
 have e0 := HBX.out.cell 0 rfl
 have e1 := HBX.out.cell 1 rfl
 have e2 := HBX.out.cell 2 rfl
 have e3 := HBX.out.cell 3 rfl
 have el := HBX.out.lt
 clear hv hm hW1 hw hroom hlt hlv hn hx hq hrh
 by_cases ho : op = 10
 ·subst ho
  have hn29 : decide (29 ≤ n) = false := decide_eq_false (by rcases h10 with h | h <;> omega)
  clear h10 f5 f22 h5 h22
  go_enter Tryz.func120, Tryz.ntmps120
  go_upto_region 1 with fail
  rw [HW.out]
  go_wp2_with fail
  with_reducible refine HX.out.mono ?_
  rintro r w2 ⟨rfl, K2, hg2⟩
  have HG2 := Lib.hid hg2
  have HL := Lib.hid (zput_any 22 0 q.1 0 [] none 0 0 w2 hg2.inn (by have := HRH.out.1.1; omega) (by constructor <;> omega) (by constructor <;> omega) ⟨by have := HRH.out.2.1; omega, by have := HRH.out.2.2; omega⟩ (by constructor <;> omega) (IntsM.nil _ _))
  clear hg2 HX e0 e1 e2 e3 el
  go_wp2_with fail
  with_reducible refine HL.out.mono ?_
  rintro r w3 ⟨rfl, K3, hg3⟩
  have HG9 := Lib.hid ((HG2.out.next hg3).before HB1.out hsz)
  clear hg3 HL
  go_wp2_with fail
  first | go_end0 | (refine bodyPost_ret (results_none rfl _ _ _) rfl ?_) | fail
  exact ⟨rfl, _, HG9.out⟩
 ·have f10 : (op == 10) = false := by simpa using ho
  clear h10 h5 h22 ho
  go_enter Tryz.func120, Tryz.ntmps120
  go_upto_region 1 with fail
  rw [HW.out]
  go_wp2_with fail
  with_reducible refine HX.out.mono ?_
  rintro r w2 ⟨rfl, K2, hg2⟩
  have HG2 := Lib.hid hg2
  have HL := Lib.hid (zput_any 22 0 q.1 0 [] none 0 0 w2 hg2.inn (by have := HRH.out.1.1; omega) (by constructor <;> omega) (by constructor <;> omega) ⟨by have := HRH.out.2.1; omega, by have := HRH.out.2.2; omega⟩ (by constructor <;> omega) (IntsM.nil _ _))
  clear hg2 HX e0 e1 e2 e3 el
  go_wp2_with fail
  with_reducible refine HL.out.mono ?_
  rintro r w3 ⟨rfl, K3, hg3⟩
  have HG9 := Lib.hid ((HG2.out.next hg3).before HB1.out hsz)
  clear hg3 HL
  go_wp2_with fail
  first | go_end0 | (refine bodyPost_ret (results_none rfl _ _ _) rfl ?_) | fail
  exact ⟨rfl, _, HG9.out⟩
end
end Go.Proofs.YtigkhmppnnljiaaGreatDoor

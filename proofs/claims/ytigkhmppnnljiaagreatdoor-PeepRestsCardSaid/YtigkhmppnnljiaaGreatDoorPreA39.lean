/-
  What the proofs lean on: Zf.
-/
import Derived.Test.YtigkhmppnnljiaaGreatDoorPreA37
set_option maxRecDepth 100000
set_option maxHeartbeats 16000000
namespace Go.Proofs.YtigkhmppnnljiaaGreatDoor
section
open Go Go.RowKit Mk
theorem zfix_any (e : Bool) (n : Int) (v : List Int) (l : List Trm) (x : Trm) (hlv0 : l.length = v.length) (hl : ∀ y ∈ l, ZAllC y.t) (hx : ZIntoC e x) (c0 c1 c2 c3 : Value) (B base mb : Nat) (K : KV) (X : Nat → Prop) (s : MSt) (d : Int) (nc nk : Int) (fr : Bool) (sc sc' : Int → Bool) (W : World)
  (hv : TrmR W B (.mk 9 n v (l ++ [x])) [c0, c1, c2, c3]) (hm : ZkIn W B base mb K X s) (hwl : ∀ y ∈ l, ∀ z ∈ y.t, Trm.wf nc nk fr z sc = true) (hwx : Trm.wf nc nk fr x sc' = true) (hroom : Room s (6 * Trm.allL (l ++ [x]) + 4)) (hd : 0 ≤ d ∧ d ≤ 1900000) :
  Calls Tryz.prog 119 #[.pointer (some ⟨mb, 0, none⟩), .agg #[c0, c1, c2, c3], .int .i64 d, .bool e] W fun r w' => r = .returned (.tuple #[]) ∧ ∃ K', ZkGo B base mb K K' X (Mk.into Mk.lkF x d e (Mk.fill Mk.lkF v (l ++ [x]) (Mk.fix1 v (l ++ [x]) s))) W w' := by
 obtain ⟨W1, hW1⟩ : ∃ W1, W.alloc (.cells #[c0, c1, c2, c3] 41) = W1 := ⟨_, rfl⟩
 have HB1 := Lib.hid (show Below W.heap.size W W1 from by rw [← hW1]; exact Below.one W _)
 have HBX := Lib.hid (show BoxL W1 W.heap.size 41 [c0, c1, c2, c3] from by rw [← hW1]; exact BoxL.new rfl _ _)
 have HM := Lib.hid (hm.keep HB1.out)
 have hsz := hm.size
 have HW := Lib.hid hW1
 obtain ⟨vs, ts, he, _, hn, hvs, hts⟩ := trmR_iff.1 hv
 simp only [List.cons.injEq, and_true] at he
 obtain ⟨rfl, rfl, rfl, rfl⟩ := he
 obtain ⟨ov, lv, cvv, rfl⟩ := hvs.form
 obtain ⟨ot, lt, ct, rfl⟩ := hts.form
 have HT := Lib.hid (show TrmS W1 B (l ++ [x]) (.slice ot lt ct) from TrmS.kept hts (HB1.out.mono hsz))
 have HV := Lib.hid (show SlC W1 B 1 IntR v (.slice ov lv cvv) from hvs.kept (HB1.out.mono hsz) fun _ _ _ h => h)
 obtain ⟨hlt, hltc, hltm⟩ := SlC.lens HT.out
 obtain ⟨hlv, hlvc, hlvm⟩ := HV.out.lens
 obtain rfl : lt = lv + 1 := by rw [hlt, hlv, ← hlv0]; simp
 have HLL := Lib.hid (show l.length = lv by omega)
 have HLV := Lib.hid hlv
 have HH := Lib.hid hl
 have HX := Lib.hid hx
 have HWL := Lib.hid hwl
 have HWX := Lib.hid hwx
 have hshort := Trm.allL_length (l ++ [x])
 have HRO := Lib.hid hroom
 have hxp := x.all_pos
 have hlv3 : lv ≤ 300000 := by have := hroom.1; simp only [List.length_append, List.length_singleton] at hshort; have := HLL.out; omega
 have HTL := Lib.hid (show (l ++ [x]).length = lv + 1 from by simp [HLL.out])
 have hrf : Room (Mk.fill Mk.lkF v (l ++ [x]) (Mk.fix1 v (l ++ [x]) s)) (6 * x.all - 2) := by
  have e1 : Mk.fill Mk.lkF v (l ++ [x]) (Mk.fix1 v (l ++ [x]) s) = Mk.fill Mk.lkF v l (Mk.fix1 v (l ++ [x]) s) := by
   rw [← Mk.fill_take Mk.lkF v (l ++ [x]), ← hlv0, List.take_left]
  rw [e1]
  refine Room.fill Mk.lkF_ok v l (Room.fix1 v (l ++ [x]) (hroom.mono ?_))
  rw [allL_append, show Trm.allL [x] = x.all by simp [Trm.allL]]
  simp only [List.length_append, List.length_singleton]
  have := Trm.allL_length l
  omega
 have HRF := Lib.hid hrf
 have e0 := HBX.out.cell 0 rfl
 have e2 := HBX.out.cell 2 rfl
 have el := HBX.out.lt
 have hzW := HB1.out.size
 clear hv hm hW1 hts hvs hl hx hwl hwx hroom hlt hlv hlv0 hrf
 go_enter Tryz.func119, Tryz.ntmps119
 go_upto_region 1 with fail
 rw [HW.out]
 go_wp2_with fail
 go_loopg [12] lv (fun g i wr => ∃ (j : Nat) (K1 : KV), g = lv - j ∧ i = .int .i64 j ∧ j ≤ lv ∧ Hid (ZkGo B base mb K K1 X (Mk.fix1 (v.take j) (l ++ [x]) s) W1 wr))
 case atStart => exact ⟨0, K, rfl, rfl, by omega, Lib.hid (by rw [List.take_zero, show Mk.fix1 [] (l ++ [x]) s = s by rw [Mk.fix1]; simp]; exact ZkGo.refl HM.out)⟩
 case round =>
  obtain ⟨j, K1, rfl, rfl, hj, HG⟩ := hrel
  clear e0 e2 el
  have HBX2 := Lib.hid (HG.out.turned.box HBX.out (HM.out.st.boxApart HBX.out (by decide) (by decide) (by decide)))
  by_cases hjl : j < lv
  ·obtain ⟨y, hy⟩ : ∃ y, v[j]? = some y := ⟨_, List.getElem?_eq_getElem (by rw [← HLV.out]; exact hjl)⟩
   obtain ⟨z, hz⟩ : ∃ z, (l ++ [x])[j]? = some z := ⟨_, List.getElem?_eq_getElem (by rw [HTL.out]; omega)⟩
   obtain ⟨zb, zoff, z0, z1, z2, z3, hzo, hpz⟩ := TrmS.part (TrmS.kept HT.out HG.out.low) hz
   obtain ⟨yb, yoff, hyo, hyb, hyc, hyi⟩ := SlC.int (HV.out.kept HG.out.low fun _ _ _ h => h) hy
   subst hzo hyo
   have hjt : j < lv + 1 := by omega
   have HYI := Lib.hid hyi
   have HPZ := Lib.hid hpz
   have HSN := Lib.hid (Mk.fix1_snoc v (l ++ [x]) j y z s hy hz)
   have hyl := cell_lt hyc
   have hrm := Mk.Room.fix1 (k := 3) (v.take j) (l ++ [x]) (HRO.out.mono (by have := hshort; have := HTL.out; omega))
   obtain ⟨s1, hs1⟩ : ∃ s1, Mk.fix1 (v.take j) (l ++ [x]) s = s1 := ⟨_, rfl⟩
   rw [hs1] at HG HSN hrm
   have HRM := Lib.hid hrm
   obtain ⟨qa, qb, qc, qd, qe, qf, rfl, rfl, rfl, rfl, hzn⟩ := TrmR.shape HPZ.out.r
   have HZN := Lib.hid hzn
   have hregs : I64 s1.regs := ⟨by have := HRM.out.2.1; omega, by have := HRM.out.2.2.1; omega⟩
   have HRG := Lib.hid hregs
   have HF := Lib.hid (zfresh_any wr HG.out.inn (HRM.out.mono (by omega)))
   clear hy hz hpz hs1 hrm hyi hzn hregs
   go_wp2_with fail
   with_reducible refine HF.out.mono ?_
   rintro r2 w2 ⟨rfl, hg2⟩
   have HG2 := Lib.hid (HG.out.next hg2)
   have HBX3 := Lib.hid (HG2.out.turned.box HBX.out (HM.out.st.boxApart HBX.out (by decide) (by decide) (by decide)))
   have HYC := Lib.hid ((hg2.low.cell (p := ⟨yb, yoff + j, none⟩) hyb).trans hyc)
   have HPZ2 := Lib.hid (HPZ.out.kept hg2.low)
   have HRM2 := Lib.hid (Room.fresh (k := 2) HRM.out)
   have HBD := Lib.hid (zbind_any y s1.regs w2 HG2.out.inn (by have := HRM2.out.2.2.2.2; omega) HYI.out HRG.out)
   have HRM3 := Lib.hid (Room.bind (k := 1) [y] [s1.regs] HRM2.out (fun y hy => by rw [List.mem_singleton.1 hy]; exact ⟨HRM.out.2.1, by have := HRM.out.2.2.1; omega⟩))
   obtain ⟨s2, hs2⟩ : ∃ s2, s1.fresh.bind [y] [s1.regs] = s2 := ⟨_, rfl⟩
   rw [hs2] at HBD HSN HRM3
   clear hg2 hyc hyl HF HPZ hs2
   have hyc := HYC.out
   have hyl := cell_lt hyc
   have e2 := HBX3.out.cell 2 rfl
   have el := HBX3.out.lt
   go_wp2_with fail
   with_reducible refine HBD.out.mono ?_
   rintro r3 w3 ⟨rfl, K3, hg3⟩
   have HG3 := Lib.hid (HG2.out.next hg3)
   have HBX4 := Lib.hid (HG3.out.turned.box HBX.out (HM.out.st.boxApart HBX.out (by decide) (by decide) (by decide)))
   have HPZ3 := Lib.hid (HPZ2.out.kept hg3.low)
   have HPT := Lib.hid (zput_any 7 s1.regs z.n 0 [] none 0 0 w3 HG3.out.inn (by have := HRM3.out.1; omega) (by constructor <;> omega) HRG.out HZN.out (by constructor <;> omega) (IntsM.nil _ _))
   clear hg3 hyc hyl e2 el HBD HYC HPZ2
   have y1 := HPZ3.out.e1
   have yl := HPZ3.out.size
   have e3 := HBX4.out.cell 3 rfl
   have el := HBX4.out.lt
   go_wp2_with fail
   with_reducible refine HPT.out.mono ?_
   rintro r4 w4 ⟨rfl, K4, hg4⟩
   have HG4 := Lib.hid (show ZkGo B base mb K K4 X (Mk.fix1 (v.take (j + 1)) (l ++ [x]) s) W1 w4 from by rw [HSN.out]; exact HG3.out.next hg4)
   clear hg4 HPT y1 yl e3 el
   go_wp2_with fail
   go_roundg (lv - (j + 1))
   case measure => omega
   case rel => exact ⟨j + 1, K4, rfl, by go_num, by omega, HG4⟩
  ·obtain rfl : j = lv := by omega
   have HE := Lib.hid (show v.take j = v from List.take_of_length_le (by rw [← HLV.out]; exact Nat.le_refl _))
   have hg := HG.out
   rw [HE.out] at hg
   have HG0 := Lib.hid hg
   obtain ⟨s0, hs0⟩ : ∃ s0, Mk.fix1 v (l ++ [x]) s = s0 := ⟨_, rfl⟩
   have HS0 := Lib.hid hs0
   rw [hs0] at HG0
   have HRO2 := Lib.hid (show Room s0 (6 * Trm.allL (l ++ [x]) + 4 - 3 * (l ++ [x]).length) from by rw [← hs0]; exact Room.fix1 v (l ++ [x]) (HRO.out.mono (by have := hshort; omega)))
   have e2 := HBX2.out.cell 2 rfl
   have el := HBX2.out.lt
   clear hg HG HE hs0
   go_wp2_with fail
   go_loopg [14] j (fun g i wr => ∃ (k : Nat) (K2 : KV), g = j - k ∧ i = .int .i64 k ∧ k ≤ j ∧ Hid (ZkGo B base mb K K2 X (Mk.fill Mk.lkF (v.take k) (l ++ [x]) s0) W1 wr))
   case atStart => exact ⟨0, K1, rfl, rfl, by omega, Lib.hid (by rw [List.take_zero, show Mk.fill Mk.lkF [] (l ++ [x]) s0 = s0 by rw [Mk.fill]; simp]; exact HG0.out)⟩
   case round =>
    obtain ⟨k, K2, rfl, rfl, hk, HG⟩ := hrel
    clear e2 el HBX2
    have HBX3 := Lib.hid (HG.out.turned.box HBX.out (HM.out.st.boxApart HBX.out (by decide) (by decide) (by decide)))
    by_cases hkl : k < j
    ·obtain ⟨y, hy⟩ : ∃ y, v[k]? = some y := ⟨_, List.getElem?_eq_getElem (by rw [← HLV.out]; exact hkl)⟩
     obtain ⟨z, hz⟩ : ∃ z, (l ++ [x])[k]? = some z := ⟨_, List.getElem?_eq_getElem (by rw [HTL.out]; omega)⟩
     have hzl : l[k]? = some z := by rw [← hz, List.getElem?_append_left (by rw [HLL.out]; exact hkl)]
     obtain ⟨zb, zoff, z0, z1, z2, z3, hzo, hpz⟩ := TrmS.part (TrmS.kept HT.out HG.out.low) hz
     obtain ⟨yb, yoff, hyo, hyb, hyc, hyi⟩ := SlC.int (HV.out.kept HG.out.low fun _ _ _ h => h) hy
     subst hzo hyo
     have hkt : k < j + 1 := by omega
     have HYI := Lib.hid hyi
     have HPZ := Lib.hid hpz
     have HSN := Lib.hid (Mk.fill_snoc Mk.lkF v (l ++ [x]) k y z s0 hy hz)
     have hrm : Room (Mk.fill Mk.lkF (v.take k) (l ++ [x]) s0) (6 * Trm.allL z.t + 1) := by
      have e1 : Mk.fill Mk.lkF (v.take k) (l ++ [x]) s0 = Mk.fill Mk.lkF (v.take k) ((l ++ [x]).take k) s0 := by
       rw [← Mk.fill_take Mk.lkF (v.take k) (l ++ [x]) s0, List.length_take, Nat.min_eq_left (by have := HLV.out; omega)]
      rw [e1]
      refine Mk.Room.fill Mk.lkF_ok (v.take k) ((l ++ [x]).take k) (HRO2.out.mono ?_)
      have h1 := allL_snoc hz
      have h2 : Trm.allL ((l ++ [x]).take (k + 1)) + Trm.allL ((l ++ [x]).drop (k + 1)) = Trm.allL (l ++ [x]) := by rw [← allL_append, List.take_append_drop]
      have h3 := Trm.allL_length ((l ++ [x]).drop (k + 1))
      have h4 : ((l ++ [x]).take k).length = k := by rw [List.length_take]; have := HTL.out; omega
      have h5 : z.all = 1 + Trm.allL z.t := by obtain ⟨o, n, v, t⟩ := z; rfl
      rw [List.length_drop] at h3
      have h6 := HTL.out
      have h8 := Trm.allL_length ((l ++ [x]).take k)
      rw [h4] at h8 ⊢
      omega
     obtain ⟨s1, hs1⟩ : ∃ s1, Mk.fill Mk.lkF (v.take k) (l ++ [x]) s0 = s1 := ⟨_, rfl⟩
     rw [hs1] at HG HSN hrm
     have HRM := Lib.hid hrm
     obtain ⟨qa, qb, qc, qd, qe, qf, rfl, rfl, rfl, rfl, hzn⟩ := TrmR.shape HPZ.out.r
     have HAL := Lib.hid (HH.out z (List.mem_of_getElem? hzl) (.slice qd qe qf) B base mb K2 X s1 nc nk fr sc wr (by
       have hr := HPZ.out.r
       obtain ⟨oy, ny, vy, ty⟩ := z
       obtain ⟨vs', ts', he, _, _, _, h⟩ := trmR_iff.1 hr
       simp only [List.cons.injEq, and_true] at he
       obtain ⟨_, _, _, rfl⟩ := he
       exact h) HG.out.inn (HWL.out z (List.mem_of_getElem? hzl)) (hrm.mono (by omega)))
     have hra := Room.allT (k := 1) Mk.lkF_ok z.t s1 (hrm.mono (by omega))
     obtain ⟨p, hp⟩ : ∃ p, Mk.allT Mk.lkF z.t s1 = p := ⟨_, rfl⟩
     rw [hp] at HAL HSN hra
     have HRA := Lib.hid hra
     have y3 := HPZ.out.e3
     have yl := HPZ.out.size
     have e3 := HBX3.out.cell 3 rfl
     have el := HBX3.out.lt
     clear hy hz hzl hpz hs1 hrm hyi hzn hra hp
     go_wp2_with fail
     with_reducible refine HAL.out.mono ?_
     rintro r2 w2 ⟨rv, rfl, K3, hg2, hi2⟩
     obtain ⟨ol, ll, cl, rfl⟩ := hi2.1.form
     have HG2 := Lib.hid (HG.out.next hg2)
     have HI2 := Lib.hid hi2
     have HBX4 := Lib.hid (HG2.out.turned.box HBX.out (HM.out.st.boxApart HBX.out (by decide) (by decide) (by decide)))
     have HYC := Lib.hid ((hg2.low.cell (p := ⟨yb, yoff + k, none⟩) hyb).trans hyc)
     obtain ⟨rg, hrg⟩ : ∃ rg, Mk.lkF p.2.vars y = rg := ⟨_, rfl⟩
     have hrl := HRA.out.1.lk Mk.lkF_ok y
     have HRR := Lib.hid (zregister_any y w2 HG2.out.inn rg hrg)
     rw [hrg] at hrl HSN
     have HRL := Lib.hid hrl
     clear hg2 hi2 hrl hrg HAL y3 yl e3 el hyc
     have hyc := HYC.out
     have hyl := cell_lt hyc
     have e2 := HBX4.out.cell 2 rfl
     have el := HBX4.out.lt
     go_wp2_with fail
     with_reducible refine HRR.out.mono ?_
     rintro r3 w3 ⟨rfl, hb3⟩
     have HG3 := Lib.hid (HG2.out.after hb3)
     have HI3 := Lib.hid (HI2.out.below hb3)
     have HPT := Lib.hid (zput_any 8 0 rg 0 p.1 ol ll cl w3 HG3.out.inn (by have := HRA.out.1.1; omega) (by constructor <;> omega) (by constructor <;> omega) ⟨by have := HRL.out.1; omega, by have := HRL.out.2; omega⟩ (by constructor <;> omega) HI3.out)
     clear hb3 hyc hyl e2 el HRR
     go_wp2_with fail
     with_reducible refine HPT.out.mono ?_
     rintro r4 w4 ⟨rfl, K4, hg4⟩
     have HG4 := Lib.hid (show ZkGo B base mb K K4 X (Mk.fill Mk.lkF (v.take (k + 1)) (l ++ [x]) s0) W1 w4 from by rw [HSN.out]; exact HG3.out.next hg4)
     clear hg4 HPT
     go_wp2_with fail
     go_roundg (j - (k + 1))
     case measure => omega
     case rel => exact ⟨k + 1, K4, rfl, by go_num, by omega, HG4⟩
    ·obtain rfl : k = j := by omega
     have HE := Lib.hid (show v.take k = v from List.take_of_length_le (by rw [← HLV.out]; exact Nat.le_refl _))
     have hg := HG.out
     have hrf := HRF.out
     rw [HE.out] at hg
     rw [HS0.out] at hrf
     obtain ⟨s5, hs5⟩ : ∃ s5, Mk.fill Mk.lkF v (l ++ [x]) s0 = s5 := ⟨_, rfl⟩
     have HS5 := Lib.hid hs5
     rw [hs5] at hg hrf
     have HG5 := Lib.hid hg
     have HR5 := Lib.hid hrf
     clear hg hrf hs5
     obtain ⟨tb, off, x0, x1, x2, x3, hto, hpx⟩ := TrmS.part HT.out (i := k) (x := x) (by rw [← HLL.out]; simp)
     subst hto
     have HPX5 := Lib.hid (hpx.kept HG5.out.low)
     obtain ⟨qa, qb, qc, qd, qe, qf, rfl, rfl, rfl, rfl, _⟩ := TrmR.shape HPX5.out.r
     have HI := Lib.hid (HX.out _ _ _ _ B base mb K2 X _ d nc nk fr sc' wr HPX5.out.r HG5.out.inn HWX.out HR5.out hd)
     have e3 := HBX3.out.cell 3 rfl
     have el := HBX3.out.lt
     have q0 := HPX5.out.e0
     have q1 := HPX5.out.e1
     have q2 := HPX5.out.e2
     have q3 := HPX5.out.e3
     have ql := HPX5.out.size
     clear hpx
     go_wp2_with fail
     with_reducible refine HI.out.mono ?_
     rintro r w6 ⟨rfl, K6, hg6⟩
     have HG9 := Lib.hid ((HG5.out.next hg6).before HB1.out hsz)
     clear hg6 HI e3 el q0 q1 q2 q3 ql
     go_wp2_with fail
     first | go_end0 | (refine bodyPost_ret (results_none rfl _ _ _) rfl ?_)
     exact ⟨rfl, _, by rw [HS0.out, HS5.out]; exact HG9.out⟩
end
end Go.Proofs.YtigkhmppnnljiaaGreatDoor

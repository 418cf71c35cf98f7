/-
  What the proofs lean on: Zl.
-/
import Derived.Test.YtigkhmppnnljiaaGreatDoorPreA31
import Derived.Test.YtigkhmppnnljiaaGreatDoorPreA36
set_option maxRecDepth 100000
set_option maxHeartbeats 16000000
namespace Go.Proofs.YtigkhmppnnljiaaGreatDoor
section
open Go Go.RowKit Mk
theorem zlet_any (e : Bool) (n : Int) (v : List Int) (l : List Trm) (x : Trm) (hlv0 : l.length = v.length) (hl : ∀ y ∈ l, ZHadC y) (hx : ZIntoC e x) (c0 c1 c2 c3 : Value) (B base mb : Nat) (K : KV) (X : Nat → Prop) (s : MSt) (d : Int) (nc nk : Int) (fr : Bool) (sc sc' : Int → Bool) (W : World)
  (hv : TrmR W B (.mk 8 n v (l ++ [x])) [c0, c1, c2, c3]) (hm : ZkIn W B base mb K X s) (hwl : ∀ y ∈ l, Trm.wf nc nk fr y sc = true) (hwx : Trm.wf nc nk fr x sc' = true) (hroom : Room s (6 * Trm.allL (l ++ [x]) + 4)) (hd : 0 ≤ d ∧ d ≤ 1900000) :
  Calls Tryz.prog 119 #[.pointer (some ⟨mb, 0, none⟩), .agg #[c0, c1, c2, c3], .int .i64 d, .bool e] W fun r w' => r = .returned (.tuple #[]) ∧ ∃ K', ZkGo B base mb K K' X (Mk.into Mk.lkF x d e ((Mk.allT Mk.lkF l s).2.bind v (Mk.allT Mk.lkF l s).1)) W w' := by
 obtain ⟨W1, hW1⟩ : ∃ W1, W.alloc (.cells #[c0, c1, c2, c3] 41) = W1 := ⟨_, rfl⟩
 have HB1 := Lib.hid (show Below W.heap.size W W1 from by rw [← hW1]; exact Below.one W _)
 have HBX := Lib.hid (show BoxL W1 W.heap.size 41 [c0, c1, c2, c3] from by rw [← hW1]; exact BoxL.new rfl _ _)
 have HM := Lib.hid (hm.keep HB1.out)
 have hsz := hm.size
 have HW := Lib.hid hW1
 obtain ⟨vs, ts, he, _, hn, hvs, hts⟩ := trmR_iff.1 hv
 simp only [List.cons.injEq, and_true] at he
 obtain ⟨rfl, rfl, rfl, rfl⟩ := he
 obtain ⟨ov, lv, cvv, rfl⟩ := hvs.form
 obtain ⟨ot, lt, ct, rfl⟩ := hts.form
 have HT := Lib.hid (show TrmS W1 B (l ++ [x]) (.slice ot lt ct) from TrmS.kept hts (HB1.out.mono hsz))
 have HV := Lib.hid (show SlC W1 B 1 IntR v (.slice ov lv cvv) from hvs.kept (HB1.out.mono hsz) fun _ _ _ h => h)
 obtain ⟨hlt, hltc, hltm⟩ := SlC.lens HT.out
 obtain ⟨hlv, hlvc, hlvm⟩ := HV.out.lens
 obtain rfl : lt = lv + 1 := by rw [hlt, hlv, ← hlv0]; simp
 have HLL := Lib.hid (show l.length = lv by omega)
 have HLV := Lib.hid hlv
 have HH := Lib.hid hl
 have HX := Lib.hid hx
 have HWL := Lib.hid hwl
 have HWX := Lib.hid hwx
 rw [allL_append, show Trm.allL [x] = x.all by simp [Trm.allL]] at hroom
 have HRO := Lib.hid hroom
 have hxp := x.all_pos
 have hshort : lv ≤ 300000 := by have := Trm.allL_length l; have := hroom.1; have := HLL.out; omega
 have HB := Lib.hid (fun (j : Nat) => show ∀ x ∈ (Mk.allT Mk.lkF (l.take j) s).1, I64 x from fun x hx => by
  have h1 := (Room.allT (k := 0) Mk.lkF_ok (l.take j) s (hroom.mono (by have := allLT_take l j; omega))).2 x hx
  exact ⟨by omega, by omega⟩)
 have e0 := HBX.out.cell 0 rfl
 have e2 := HBX.out.cell 2 rfl
 have el := HBX.out.lt
 have hzW := HB1.out.size
 clear hv hm hW1 hts hvs hl hx hwl hwx hroom hlt hlv hlv0
 go_enter Tryz.func119, Tryz.ntmps119
 go_upto_region 1 with fail
 rw [HW.out]
 go_wp2_with fail
 go_loopg [10, 9] lv (fun g i ov wr => ∃ (j : Nat) (K' : KV), g = lv - j ∧ i = .int .i64 j ∧ j ≤ lv ∧ Hid (ZkGo B base mb K K' (fun b => X b ∨ ov.ownBlock = some b) (Mk.allT Mk.lkF (l.take j) s).2 W1 wr) ∧ Hid (wr.ownsRow W1.heap.size 3 1 ov (Mk.allT Mk.lkF (l.take j) s).1.length ((Mk.allT Mk.lkF (l.take j) s).1.map (Value.int .i64))) ∧ Hid (∀ b, ov.ownBlock = some b → ¬ SZ mb K' b))
 case atStart => exact ⟨0, K, rfl, rfl, by omega, Lib.hid (by simpa [Mk.allT] using ZkGo.refl (HM.out.turn (X' := fun b => X b ∨ (Value.slice none 0 0).ownBlock = some b) (fun b _ h => h.elim id (fun h => by simp [Value.ownBlock] at h)) (fun b h => h.elim (HM.out.bx b) (fun h => by simp [Value.ownBlock] at h)))), Lib.hid (by simpa [Mk.allT] using World.ownsRow_nil _ _ _ _), Lib.hid (fun b h => by simp [Value.ownBlock] at h)⟩
 case round =>
  obtain ⟨j, K', rfl, rfl, hj, HG, HO, HAP⟩ := hrel
  clear e0 e2 el
  have HBX2 := Lib.hid (HG.out.turned.box HBX.out (HM.out.st.boxApart HBX.out (by decide) (by decide) (by decide)))
  have e3 := HBX2.out.cell 3 rfl
  have e2 := HBX2.out.cell 2 rfl
  have el := HBX2.out.lt
  by_cases hjl : j < lv
  ·obtain ⟨x', hx⟩ : ∃ x', l[j]? = some x' := ⟨_, List.getElem?_eq_getElem (by rw [HLL.out]; exact hjl)⟩
   have hx' : (l ++ [x])[j]? = some x' := by rw [List.getElem?_append_left (by rw [HLL.out]; exact hjl)]; exact hx
   obtain ⟨b, off, cs, ho, _, hcl, hcell, hr⟩ := SlC.at HT.out HG.out.low hx'
   subst ho
   match cs, hcl with
   | [c0, c1, c2, c3], _ =>
    have q0 := hcell 0 _ rfl
    have q1 := hcell 1 _ rfl
    have q2 := hcell 2 _ rfl
    have q3 := hcell 3 _ rfl
    simp only [Nat.add_zero] at q0
    have hbl := cell_lt q0
    obtain ⟨qa, qb, qc, qd, qe, qf, rfl, rfl, rfl, rfl, _⟩ := TrmR.shape hr
    have hjt : j < lv + 1 := by omega
    have hrm := Room.allT (k := 6 * x'.all) Mk.lkF_ok (l.take j) s (HRO.out.mono (by have := allL_snoc hx; have := allLT_take l (j + 1); omega))
    have HC := Lib.hid (HH.out x' (List.mem_of_getElem? hx) _ _ _ _ B base mb K' _ (Mk.allT Mk.lkF (l.take j) s).2 nc nk fr sc wr (TrmR.kept HG.out.low _ _ hr) HG.out.inn (HWL.out x' (List.mem_of_getElem? hx)) (hrm.1.mono (by omega)))
    have HTK := Lib.hid (allT_snoc Mk.lkF hx s)
    have hjb := Lib.hid (HB.out (j + 1))
    obtain ⟨q, hq⟩ : ∃ q, Mk.had Mk.lkF x' (Mk.allT Mk.lkF (l.take j) s).2 = q := ⟨_, rfl⟩
    have HLEN := Lib.hid (show (Mk.allT Mk.lkF (l.take j) s).1.length = j from by rw [allT_length, List.length_take]; have := HLL.out; omega)
    rw [hq] at HC HTK
    clear hr hrm hx hx' hq hcell
    go_wp2_with fail
    refine HC.out.mono ?_
    rintro e w2 ⟨rfl, K2, hg2⟩
    have HG2 := Lib.hid (HG.out.next hg2)
    have hq64 : I64 q.1 := hjb.out _ (by rw [HTK.out]; simp)
    have HQ := Lib.hid hq64
    have HO2 := Lib.hid (row_same HO.out (fun c hc => hg2.turned.block c (ownBlock_lt HO.out hc) (HAP.out c hc)))
    have HAP2 := Lib.hid (show ∀ b, u9.ownBlock = some b → ¬ SZ mb K2 b from fun b h hs => HAP.out b h (hg2.less b (ownBlock_lt HO.out h) hs))
    have hw2 : W1.heap.size ≤ w2.heap.size := HG2.out.turned.size
    have hlen2 : (Mk.allT Mk.lkF (l.take j) s).1.length ≤ 300000 := by have := HLEN.out; omega
    obtain ⟨i0, hi0, hz0, hz1, hz2⟩ := info_parts info_int
    clear hg2 hq64 q0 q1 q2 q3 hbl e3 e2 el
    go_wp2_with (at_builtin; refine wpList_append_lies _ rfl (.tmp 27) (.tmp 35) 32 rfl W1.heap.size 3 i0 (.int .i64 0) 1 8 Tryz.underlying32 hi0 hz0 hz1 hz2 rfl (by decide) u9 (Mk.allT Mk.lkF (l.take j) s).1.length _ rfl (HO2.out.alloc _) ⟨w2.heap.size, 0, none⟩ 1 1 [.int .i64 q.1] rfl rfl (new_cells w2 _ _) (by intro u hu; simp only [List.mem_cons, List.not_mem_nil, or_false] at hu; subst hu; rfl) (by decide) (by unfold maxLen; omega) (by omega) (by simp; omega) (w2.heap.size + 1) (by simp) ?_)
    intro g cap w3 hown hgrow hlie hglt
    have HT3 : Turned (fun b => u9.ownBlock = some b) w2 w3 := (Turned.of_below (Below.one w2 _)).next (Turned.grown hgrow (fun b h => h))
    have HTT : Turned (SZ mb K) W1 w3 := HG2.out.turned.trans HT3 (fun b hb h => by have := ownBlock_base HO2.out h; omega)
    have hgS : ¬ SZ mb K2 g := fun hs => by
     rcases hlie with h | h
     ·exact HAP2.out g h hs
     ·have := HG2.out.inn.st.lt g hs
      omega
    have HAP3 := Lib.hid (show ∀ b, (Value.slice (some ⟨g, 0, none⟩) ((Mk.allT Mk.lkF (l.take j) s).1.length + 1) cap).ownBlock = some b → ¬ SZ mb K2 b from fun b h => by
     have e : g = b := by simpa [Value.ownBlock] using h
     subst e
     exact hgS)
    have HGN := Lib.hid (show ZkGo B base mb K K2 (fun b => X b ∨ (Value.slice (some ⟨g, 0, none⟩) ((Mk.allT Mk.lkF (l.take j) s).1.length + 1) cap).ownBlock = some b) (Mk.allT Mk.lkF (l.take (j + 1)) s).2 W1 w3 from by
     rw [HTK.out]
     refine ⟨⟨HG2.out.inn.st.keep HT3 (fun b _ h => ⟨.inr h, HAP2.out b h⟩) (fun b hb h => ?_), HG2.out.inn.b1, HG2.out.inn.b2, Nat.le_trans HG2.out.inn.b4 HT3.size, fun b h => ?_⟩, HTT, HG2.out.less, HTT.below HM.out.low (Nat.le_trans hsz hzW)⟩
     ·refine h.imp id fun e => ?_
      have e : g = b := by simpa [Value.ownBlock] using e
      subst e
      rcases hlie with h | h
      ·exact h
      ·omega
     ·rcases h with h | h
      ·exact Nat.lt_of_lt_of_le (HG2.out.inn.bx b (.inl h)) HT3.size
      ·have e : g = b := by simpa [Value.ownBlock] using h
       subst e
       exact hglt)
    have HON := Lib.hid (show w3.ownsRow W1.heap.size 3 1 (.slice (some ⟨g, 0, none⟩) ((Mk.allT Mk.lkF (l.take j) s).1.length + 1) cap) (Mk.allT Mk.lkF (l.take (j + 1)) s).1.length ((Mk.allT Mk.lkF (l.take (j + 1)) s).1.map (Value.int .i64)) from by
     rw [HTK.out]
     simpa using hown)
    clear hown hgrow hlie hglt HT3 HTT hgS
    go_wp2_with fail
    go_roundg (lv - (j + 1))
    case measure => omega
    case rel => exact ⟨j + 1, K2, rfl, by go_num, by omega, HGN, HON, HAP3⟩
  ·obtain rfl : j = lv := by omega
   have HE := Lib.hid (show l.take j = l from List.take_of_length_le (by rw [HLL.out]; exact Nat.le_refl _))
   have hg := HG.out
   have ho := HO.out
   have hb := HB.out j
   rw [HE.out] at hg ho hb
   have HIN := Lib.hid (show IntsM wr (fun b => SZ mb K' b ∨ X b) (Mk.allT Mk.lkF l s).1 u9 from IntsM.of_row ho hb (fun b h hs => by
    rcases hs with hs | hs
    ·exact HAP.out b h hs
    ·have := HM.out.bx b hs
     have := ownBlock_base ho h
     omega))
   have HPL0 := Lib.hid (allT_length Mk.lkF l s)
   have hra := Room.allT (k := 6 * x.all + 4) Mk.lkF_ok l s (HRO.out.mono (by omega))
   have hra2 := allT_room Mk.lkF_ok l s (6 * x.all - 2 + l.length) (HRO.out.mono (by have := Trm.allL_length l; omega))
   obtain ⟨p, hp⟩ : ∃ p, Mk.allT Mk.lkF l s = p := ⟨_, rfl⟩
   rw [hp] at hg HIN HPL0 hra hra2 hb
   have HP := Lib.hid hp
   have HRA := Lib.hid hra
   have HRA2 := Lib.hid hra2
   have HBI := Lib.hid hb
   have HG2 := Lib.hid (show ZkGo B base mb K K' X p.2 W1 wr from ⟨hg.inn.turn (fun b _ h => .inl h) (fun b h => hg.inn.bx b (.inl h)), hg.turned, hg.less, hg.low⟩)
   obtain ⟨ol, ll, cl, rfl⟩ := HIN.out.1.form
   obtain ⟨hll, hlc, hlm⟩ := HIN.out.1.lens
   obtain rfl : ll = j := by rw [hll, HPL0.out, HLL.out]
   obtain ⟨w1, hw1⟩ : ∃ w1, wr = w1 := ⟨_, rfl⟩
   rw [hw1] at HIN HG2 e3 e2 el HBX2 ⊢
   clear hg ho hb HG HO hp hra hra2 hll hw1
   go_wp2_with fail
   go_loopg [11] ll (fun g i wr => ∃ (k : Nat) (K2 : KV), g = ll - k ∧ i = .int .i64 k ∧ k ≤ ll ∧ Hid (ZkGo B base mb K' K2 X (p.2.bind (v.take k) (p.1.take k)) w1 wr))
   case atStart => exact ⟨0, K', rfl, rfl, by omega, Lib.hid (by simpa [MSt.bind] using ZkGo.refl HG2.out.inn)⟩
   case round =>
    obtain ⟨k, K2, rfl, rfl, hk, HG⟩ := hrel
    clear e3 e2 el
    have HBX3 := Lib.hid ((HG2.out.next HG.out).turned.box HBX.out (HM.out.st.boxApart HBX.out (by decide) (by decide) (by decide)))
    by_cases hkl : k < ll
    ·obtain ⟨y, hy⟩ : ∃ y, v[k]? = some y := ⟨_, List.getElem?_eq_getElem (by rw [← HLV.out]; exact hkl)⟩
     obtain ⟨r0, hr0⟩ : ∃ r0, p.1[k]? = some r0 := ⟨_, List.getElem?_eq_getElem (by rw [HPL0.out, HLL.out]; exact hkl)⟩
     obtain ⟨yb, yoff, hyo, hyb, hyc, hyi⟩ := SlC.int (HV.out.kept (HG2.out.low.trans HG.out.low) fun _ _ _ h => h) hy
     obtain ⟨gb, goff, hgo, hgb, hgc, hgi⟩ := SlC.int (IntsM.goZ HIN.out HG.out).1 hr0
     subst hyo hgo
     have hyl := cell_lt hyc
     have hgl := cell_lt hgc
     have HYI := Lib.hid hyi
     have HGI := Lib.hid hgi
     have HSN := Lib.hid (show p.2.bind (v.take (k + 1)) (p.1.take (k + 1)) = (p.2.bind (v.take k) (p.1.take k)).bind [y] [r0] from by
      simp only [MSt.bind]
      rw [List.take_add_one, hy, List.take_add_one, hr0, List.zip_append (by rw [List.length_take, List.length_take]; have := (List.getElem?_eq_some_iff.1 hy).1; have := (List.getElem?_eq_some_iff.1 hr0).1; omega), List.append_assoc]
      rfl)
     have hvl : (p.2.bind (v.take k) (p.1.take k)).vars.length ≤ 2000000 := by
      have h1 := HRA2.out.2.2.2.2
      have h2 := HLL.out
      have h3 := HPL0.out
      simp only [MSt.bind, List.length_append, List.length_zip, List.length_take]
      omega
     have e2 := HBX3.out.cell 2 rfl
     have el := HBX3.out.lt
     clear hy hr0 hyi hgi
     go_upto_region 11 with fail
     have HD := Lib.hid ((Below.refl wr.heap.size wr).drew)
     refine wp_region_quiet_class (Below wr.heap.size wr) 10 (by kernel_rfl) (by kernel_rfl) HD.out ?_
     intro T0 _ WW HWW HWW2
     have z0 : ∀ t, (WW t).cell? _ = _ := fun t => ((HWW t).cell (p := ⟨yb, yoff + k, none⟩) hyl).trans hyc
     have z1 : ∀ t, (WW t).cell? _ = _ := fun t => ((HWW t).cell (p := ⟨W.heap.size, 2, none⟩) el).trans e2
     have z2 : ∀ t, (WW t).cell? _ = _ := fun t => ((HWW t).cell (p := ⟨gb, goff + k, none⟩) hgl).trans hgc
     have HWH := Lib.hid HWW
     clear HWW HWW2
     simp only [List.take_succ_cons, List.take_zero, List.drop_succ_cons, List.drop_zero]
     repeat (go_big_quiet_step (fail))
     refine wpQuiet_nil ?_
     intro t'
     obtain ⟨W3, hW3⟩ : ∃ W3, WW t' = W3 := ⟨_, rfl⟩
     have HB3 := Lib.hid (show Below wr.heap.size wr W3 from hW3 ▸ HWH.out t')
     rw [hW3]
     clear z0 z1 z2 hW3 HWH hyl hyc e2 el hgc hgl
     have HG3 := Lib.hid (HG.out.after HB3.out)
     have HBD := Lib.hid (zbind_any y r0 W3 HG3.out.inn hvl HYI.out HGI.out)
     clear hvl
     go_wp2_with fail
     with_reducible refine HBD.out.mono ?_
     rintro e w4 ⟨rfl, K4, hg4⟩
     have HG4 := Lib.hid (HG3.out.next hg4)
     rw [← HSN.out] at HG4
     clear hg4
     go_wp2_with fail
     go_roundg (ll - (k + 1))
     case measure => omega
     case rel => exact ⟨k + 1, K4, rfl, by go_num, by omega, HG4⟩
    ·obtain rfl : k = ll := by omega
     have HE1 := Lib.hid (show v.take k = v from List.take_of_length_le (by rw [← HLV.out]; exact Nat.le_refl _))
     have HE2 := Lib.hid (show p.1.take k = p.1 from List.take_of_length_le (by rw [HPL0.out, HLL.out]; exact Nat.le_refl _))
     have hg := HG2.out.next HG.out
     rw [HE1.out, HE2.out] at hg
     have HG5 := Lib.hid hg
     have HR5 := Lib.hid (show Room (p.2.bind v p.1) (6 * x.all - 2) from Room.bind v p.1 (HRA2.out.mono (by rw [HPL0.out]; exact Nat.le_refl _)) HRA.out.2)
     clear hg
     obtain ⟨tb, off, x0, x1, x2, x3, hto, hpx⟩ := TrmS.part HT.out (i := k) (x := x) (by rw [← HLL.out]; simp)
     subst hto
     have HPX5 := Lib.hid (hpx.kept HG5.out.low)
     obtain ⟨qa, qb, qc, qd, qe, qf, rfl, rfl, rfl, rfl, _⟩ := TrmR.shape HPX5.out.r
     have HI := Lib.hid (HX.out _ _ _ _ B base mb K2 X _ d nc nk fr sc' wr HPX5.out.r HG5.out.inn HWX.out (HR5.out.mono (by omega)) hd)
     have e3 := HBX3.out.cell 3 rfl
     have el := HBX3.out.lt
     have q0 := HPX5.out.e0
     have q1 := HPX5.out.e1
     have q2 := HPX5.out.e2
     have q3 := HPX5.out.e3
     have ql := HPX5.out.size
     clear hpx
     go_wp2_with fail
     with_reducible refine HI.out.mono ?_
     rintro r w6 ⟨rfl, K6, hg6⟩
     have HG9 := Lib.hid ((HG5.out.next hg6).before HB1.out hsz)
     clear hg6 HI e3 el q0 q1 q2 q3 ql
     go_wp2_with fail
     first | go_end0 | (refine bodyPost_ret (results_none rfl _ _ _) rfl ?_)
     exact ⟨rfl, _, by rw [HP.out]; exact HG9.out⟩
end
end Go.Proofs.YtigkhmppnnljiaaGreatDoor

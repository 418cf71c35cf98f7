/-
  What the proofs lean on: Zq, Zr.
-/
import Derived.Test.YtigkhmppnnljiaaGreatDoorPreA30
import Derived.Test.YtigkhmppnnljiaaGreatDoorPreA35
import Derived.Test.YtigkhmppnnljiaaGreatDoorPreA36
import Derived.Test.YtigkhmppnnljiaaGreatDoorPreA42
import Derived.Test.YtigkhmppnnljiaaGreatDoorPreA44
set_option maxRecDepth 100000
set_option maxHeartbeats 16000000
namespace Go.Proofs.YtigkhmppnnljiaaGreatDoor
section
open Go Go.RowKit Mk
theorem ZkS.gap {W : World} {base mb H : Nat} {K : KV} {X : Nat → Prop} {s : MSt} (h : ZkS W base mb K X s) (hH : H ≤ base) (hX : ∀ b, b < H → X b) : SlC (Go.Proofs.YtigkhmppnnljiaaGreatDoor.gap W 0 H) W.heap.size 5 (InsR (Go.Proofs.YtigkhmppnnljiaaGreatDoor.gap W 0 H) W.heap.size) s.code K.c := by
 obtain ⟨xs, hr, hc⟩ := h.row
 have h1 := slC_of_row (ownsRow_gap (lo := 0) hr hH) (hc.mono fun x _ cs hx => show InsR (Go.Proofs.YtigkhmppnnljiaaGreatDoor.gap W 0 H) W.heap.size x cs from by
  obtain ⟨sl, rfl, a1, a2, a3, a4, a5⟩ := hx
  exact ⟨sl, rfl, a1, a2, a3, a4, a5.gap fun b hb => .inr (hX b hb)⟩)
 rwa [gap_size] at h1
theorem zproc_any (c : Cod) (vs c0 c1 c2 c3 : Value) (B : Nat) (nc nk : Int) (fr : Bool) (sc : Int → Bool) (W : World) (hv : CodR W B c [vs, .bool c.rest, c0, c1, c2, c3]) (hB : B ≤ W.heap.size) (hw : Trm.wf nc nk fr c.body sc = true) (hroom : c.v.length ≤ 1000001 ∧ 6 * c.body.all ≤ 800000) :
  Calls Tryz.prog 43 #[.agg #[vs, .bool c.rest, c0, c1, c2, c3]] W (ProcPost W.heap.size (Mk.proc Mk.lkF c) W) := by
 obtain ⟨vs', b0, b1, b2, b3, he, hvs, hbody⟩ := hv
 simp only [List.cons.injEq, and_true] at he
 obtain ⟨rfl, _, rfl, rfl, rfl, rfl⟩ := he
 obtain ⟨v, rest, body⟩ := c
 dsimp only at *
 obtain ⟨ov, lv, cvv, rfl⟩ := hvs.form
 obtain ⟨hlv, hlc, hlm⟩ := hvs.lens
 obtain ⟨q, r, u, q', r', u', rfl, rfl, rfl, rfl, hbn⟩ := TrmR.shape hbody
 obtain ⟨W4, hW4⟩ : ∃ W4, ((W.alloc (.cells #[.slice ov lv cvv, .bool rest, .int .i64 body.op, .int .i64 body.n, .slice q r u, .slice q' r' u'] 50)).alloc (.cells #[.int .i64 0, .bool false, .int .i64 0, .slice none 0 0, .slice none 0 0] 31)).alloc (.cells #[.slice none 0 0, .int .i64 lv, .slice none 0 0, .slice none 0 0] 119) = W4 := ⟨_, rfl⟩
 have HB4 := Lib.hid (show Below W.heap.size W W4 from by rw [← hW4]; exact ((Below.one W _).trans ((Below.one _ _).mono (by simp))).trans ((Below.one _ _).mono (by simp; omega)))
 have HC := Lib.hid (show BoxL W4 W.heap.size 50 [.slice ov lv cvv, .bool rest, .int .i64 body.op, .int .i64 body.n, .slice q r u, .slice q' r' u'] from by rw [← hW4]; exact ((BoxL.new rfl _ _).alloc _).alloc _)
 have HP := Lib.hid (show BoxL W4 (W.heap.size + 1) 31 [.int .i64 0, .bool false, .int .i64 0, .slice none 0 0, .slice none 0 0] from by rw [← hW4]; exact (BoxL.new (by simp) _ _).alloc _)
 have HX := Lib.hid (show BoxL W4 (W.heap.size + 1 + 1) 119 [.slice none 0 0, .int .i64 lv, .slice none 0 0, .slice none 0 0] from by rw [← hW4]; exact BoxL.new (by simp) _ _)
 have hs4 : W4.heap.size = W.heap.size + 1 + 1 + 1 := by rw [← hW4]; simp
 have HI := Lib.hid (show ZkIn W4 B (W.heap.size + 1 + 1 + 1) (W.heap.size + 1 + 1) ⟨.slice none 0 0, .slice none 0 0, .slice none 0 0⟩ (fun b => b < W.heap.size + 1 + 1) ⟨[], lv, varsTo v 0⟩ from
  ⟨⟨HX.out, ⟨[], World.ownsRow_nil _ _ _ _, rfl⟩, World.ownsRow_nil _ _ _ _, World.ownsRow_nil _ _ _ _, fun b hb => by simp [Value.ownBlock] at hb, fun p hp => by simp [varsTo] at hp⟩, by omega, by omega, by omega, fun b hb => by omega⟩)
 have HV := Lib.hid (show SlC W4 B 1 IntR v (.slice ov lv cvv) from hvs.kept (HB4.out.mono hB) fun _ _ _ h => h)
 have HBD := Lib.hid (TrmR.kept (HB4.out.mono hB) _ _ hbody)
 have HW := Lib.hid hW4
 have HLV := Lib.hid hlv
 have HS4 := Lib.hid hs4
 have HWF := Lib.hid hw
 have hbp := body.all_pos
 have HRO := Lib.hid hroom
 have hlr : lv ≤ 1000001 := by omega
 clear hW4 hlv hs4 hw hroom hvs hbody hbn HX
 go_enter Tryz.func43, Tryz.ntmps43
 go_upto_region 2 with fail
 rw [HW.out]
 have e0 := HC.out.cell 0 rfl
 have el := HC.out.lt
 go_wp2_with fail
 go_loopg [4] lv (fun g i wr => ∃ (j : Nat) (K : KV), g = lv - j ∧ i = .int .i64 j ∧ j ≤ lv ∧ Hid (ZkGo B (W.heap.size + 1 + 1 + 1) (W.heap.size + 1 + 1) ⟨.slice none 0 0, .slice none 0 0, .slice none 0 0⟩ K (fun b => b < W.heap.size + 1 + 1) ⟨[], lv, varsTo v j⟩ W4 wr))
 case atStart => exact ⟨0, _, rfl, rfl, by omega, Lib.hid (ZkGo.refl HI.out)⟩
 case round =>
  obtain ⟨j, K, rfl, rfl, hj, HG⟩ := hrel
  clear e0 el
  have HC1 := Lib.hid (HG.out.box HI.out HC.out (by decide) (by decide) (by decide))
  have e0 := HC1.out.cell 0 rfl
  have el := HC1.out.lt
  by_cases hjl : j < lv
  ·obtain ⟨x, hx⟩ : ∃ x, v[j]? = some x := ⟨_, List.getElem?_eq_getElem (by rw [← HLV.out]; exact hjl)⟩
   obtain ⟨xb, xoff, hxo, hxb, hxc, hxi⟩ := SlC.int (HV.out.kept HG.out.low fun _ _ _ h => h) hx
   subst hxo
   have hxl := cell_lt hxc
   have HSN := Lib.hid (varsTo_snoc hx)
   have hvl := varsTo_length v j (by have := HLV.out; omega)
   have HBD := Lib.hid (zbind_any x (j : Int) wr HG.out.inn (by show (varsTo v j).length ≤ _; omega) hxi ⟨by omega, by omega⟩)
   clear hx hxi hvl
   go_wp2_with fail
   with_reducible refine HBD.out.mono ?_
   rintro e w4 ⟨rfl, K4, hg4⟩
   have HG5 := Lib.hid (show ZkGo B (W.heap.size + 1 + 1 + 1) (W.heap.size + 1 + 1) ⟨.slice none 0 0, .slice none 0 0, .slice none 0 0⟩ K4 (fun b => b < W.heap.size + 1 + 1) ⟨[], lv, varsTo v (j + 1)⟩ W4 w4 from by rw [HSN.out]; exact HG.out.next hg4)
   clear hg4 hxc hxl e0 el HBD
   go_wp2_with fail
   go_roundg (lv - (j + 1))
   case measure => omega
   case rel => exact ⟨j + 1, K4, rfl, by go_num, by omega, HG5⟩
  ·obtain rfl : j = lv := by omega
   have hvt : varsTo v j = v.zip ((List.range v.length).map fun (i : Nat) => (i : Int)) := by unfold varsTo; rw [HLV.out, List.take_length]
   have hg := HG.out
   rw [hvt] at hg
   have HG2 := Lib.hid hg
   have HC2 := Lib.hid (hg.box HI.out HC.out (by decide) (by decide) (by decide))
   have HP2 := Lib.hid (hg.box HI.out HP.out (by decide) (by decide) (by decide))
   have hrm : Room ⟨[], (j : Int), v.zip ((List.range v.length).map fun (i : Nat) => (i : Int))⟩ (6 * body.all) := by
    have h1 := HRO.out
    have h2 := HLV.out
    refine ⟨by simp; omega, by simp, by dsimp only; omega, fun p hp => ?_, by simp; omega⟩
    have := (List.of_mem_zip hp).2
    simp only [List.mem_map, List.mem_range] at this
    obtain ⟨i, hi, e⟩ := this
    omega
   have HIN := Lib.hid (zinto_any body.all body (Nat.le_refl _) true _ _ _ _ B _ _ _ _ _ 0 nc nk fr sc wr (TrmR.kept hg.low _ _ HBD.out) hg.inn HWF.out (hrm.mono (by omega)) ⟨by omega, by omega⟩)
   have HRM := Lib.hid (Room.into Mk.lkF_ok body 0 true _ 0 (hrm.mono (by omega)))
   obtain ⟨S, hS⟩ : ∃ S, Mk.into Mk.lkF body 0 true ⟨[], (j : Int), v.zip ((List.range v.length).map fun (i : Nat) => (i : Int))⟩ = S := ⟨_, rfl⟩
   rw [hS] at HIN HRM
   have HFIN := Lib.hid (show Mk.proc Mk.lkF ⟨v, rest, body⟩ = ⟨(j : Int), rest, S.regs, S.code, []⟩ from by
    have := HLV.out
    unfold Mk.proc
    dsimp only
    rw [← hS, this])
   clear e0 el
   have ee := HC2.out.cell 0 rfl
   have e0 := HC2.out.cell 2 rfl
   have e1 := HC2.out.cell 3 rfl
   have e2 := HC2.out.cell 4 rfl
   have e3 := HC2.out.cell 5 rfl
   have el := HC2.out.lt
   clear hg hvt hrm hS HG
   go_wp2_with fail
   with_reducible refine HIN.out.mono ?_
   rintro e w3 ⟨rfl, K3, hg3⟩
   have HG3 := Lib.hid (HG2.out.next hg3)
   have HC3 := Lib.hid (hg3.box HG2.out.inn HC2.out (by decide) (by decide) (by decide))
   have HP3 := Lib.hid (hg3.box HG2.out.inn HP2.out (by decide) (by decide) (by decide))
   clear hg3 ee e0 e1 e2 e3 el
   have q0 := HC3.out.cell 0 rfl
   have q1 := HC3.out.cell 1 rfl
   have ql := HC3.out.lt
   obtain ⟨oc, cc, hkc⟩ : ∃ oc cc, K3.c = .slice oc S.code.length cc := by obtain ⟨xs, hr, _⟩ := HG3.out.inn.st.row; exact own_form hr
   have HKC := Lib.hid hkc
   have bx3 := HG3.out.inn.st.box
   rw [hkc] at bx3
   have m0 := bx3.cell 0 rfl
   have m1 := bx3.cell 1 rfl
   have ml := bx3.lt
   clear hkc bx3
   go_upto_region 7 with fail
   have HD := Lib.hid ((Below.refl w3.heap.size w3).drew)
   refine wp_region_quiet_class (Below w3.heap.size w3) 14 (by kernel_rfl) (by kernel_rfl) HD.out ?_
   intro T0 _ WW HWW HWW2
   have z0 : ∀ t, (WW t).cell? _ = _ := fun t => ((HWW t).cell (p := ⟨W.heap.size, 0, none⟩) ql).trans q0
   have z1 : ∀ t, (WW t).cell? _ = _ := fun t => ((HWW t).cell (p := ⟨W.heap.size, 1, none⟩) ql).trans q1
   have z2 : ∀ t, (WW t).cell? _ = _ := fun t => ((HWW t).cell (p := ⟨W.heap.size + 1 + 1, 0, none⟩) ml).trans m0
   have z3 : ∀ t, (WW t).cell? _ = _ := fun t => ((HWW t).cell (p := ⟨W.heap.size + 1 + 1, 1, none⟩) ml).trans m1
   have HWH := Lib.hid HWW
   clear HWW HWW2
   simp only [List.take_succ_cons, List.take_zero, List.drop_succ_cons, List.drop_zero]
   repeat (go_big_quiet_step (fail))
   refine wpQuiet_nil ?_
   intro t'
   obtain ⟨W3, hW3⟩ : ∃ W3, WW t' = W3 := ⟨_, rfl⟩
   have HB3 := Lib.hid (show Below w3.heap.size w3 W3 from hW3 ▸ HWH.out t')
   rw [hW3]
   clear z0 z1 z2 z3 hW3 HWH q0 q1 ql m0 m1 ml
   have HG5 := Lib.hid (HG3.out.after HB3.out)
   have HP5 := Lib.hid (HP3.out.keep HB3.out)
   have p0 := HP5.out.cell 0 rfl
   have p1 := HP5.out.cell 1 rfl
   have p2 := HP5.out.cell 2 rfl
   have p3 := HP5.out.cell 3 rfl
   have p4 := HP5.out.cell 4 rfl
   have f0 := HP5.out.free 0
   have f1 := HP5.out.free 1
   have f2 := HP5.out.free 2
   have f3 := HP5.out.free 3
   have f4 := HP5.out.free 4
   have pl := HP5.out.lt
   have bN := ((((HP5.out.set 0 (.int .i64 (j : Int))).set 1 (.bool rest)).set 2 (.int .i64 S.regs)).set 3 (.slice oc S.code.length cc)).set 4 (.slice none 0 0)
   have n0 := bN.cell 0 rfl
   have n1 := bN.cell 1 rfl
   have n2 := bN.cell 2 rfl
   have n3 := bN.cell 3 rfl
   have n4 := bN.cell 4 rfl
   go_wp2_with fail
   obtain ⟨WF, hWF⟩ : ∃ WF, (((((W3.setCell ⟨W.heap.size + 1, 0, none⟩ (.int .i64 (j : Int))).setCell ⟨W.heap.size + 1, 1, none⟩ (.bool rest)).setCell ⟨W.heap.size + 1, 2, none⟩ (.int .i64 S.regs)).setCell ⟨W.heap.size + 1, 3, none⟩ (.slice oc S.code.length cc)).setCell ⟨W.heap.size + 1, 4, none⟩ (.slice none 0 0)) = WF := ⟨_, rfl⟩
   rw [hWF] at n0 n1 n2 n3 n4 ⊢
   have hT : Turned (fun b => b = W.heap.size + 1) W3 WF := by
    rw [← hWF]
    have ht : ∀ (A : World) (i : Nat) (v : Value), Turned (fun b => b = W.heap.size + 1) A (A.setCell ⟨W.heap.size + 1, i, none⟩ v) := fun A i v => Turned.set (S := fun b => b = W.heap.size + 1) A ⟨W.heap.size + 1, i, none⟩ v rfl
    exact ((((ht _ _ _).next (ht _ _ _)).next (ht _ _ _)).next (ht _ _ _)).next (ht _ _ _)
   have hst := HG5.out.inn.st.keep (X' := fun b => b < W.heap.size + 1 + 1) hT (fun b _ hb => ⟨by rw [hb]; omega, by rw [hb]; exact HG5.out.inn.st.boxApart HP5.out (by decide) (by decide) (by decide)⟩) (fun _ _ h => h)
   have hcode := hst.gap (H := W.heap.size) (by omega) (fun b hb => by omega)
   rw [HKC.out] at hcode
   have hbl : Below W.heap.size W4 W3 := HG5.out.turned.below (fun b hb => by
    rcases hb with rfl | hb | hb | hb
    ·omega
    ·simp [Value.ownBlock] at hb
    ·simp [Value.ownBlock] at hb
    ·simp [Value.ownBlock] at hb) HB4.out.size
   refine bodyPost_ret (v := .agg #[.int .i64 (j : Int), .bool rest, .int .i64 S.regs, .slice oc S.code.length cc, .slice none 0 0]) (by simp [results, Tryz.results43, go_sem, n0, n1, n2, n3, n4]) rfl ⟨oc, S.code.length, cc, by rw [HFIN.out], ?_, (HB4.out.trans hbl).trans (hT.below (fun b hb => by omega) (by have := (HB4.out.trans hbl).size; omega))⟩
   rw [HFIN.out]
   exact ⟨_, _, rfl, ⟨by dsimp only; omega, by dsimp only; omega⟩, ⟨by have := HRM.out.2.1; dsimp only; omega, by have := HRM.out.2.2.1; dsimp only; omega⟩, hcode, ⟨none, 0, 0, rfl, rfl, Nat.le_refl _, by omega, rfl, rfl⟩⟩
end
section
open Go Go.RowKit Mk
namespace Mdl
def rErr (m : Mdl) : Int := if m.rokB && (m.unit Mk.lkL).okB then 0 else 5
def rU (m : Mdl) : Unt := if m.rokB && (m.unit Mk.lkL).okB then m.unit Mk.lkL else ⟨[], []⟩
theorem cods_all {m : Mdl} (h : m.rokB = true) : ∀ c ∈ m.cods, c.body.all ≤ 20000 := fun c hc => by
 have h1 := (rok_ok h).2
 unfold Mdl.all at h1
 rcases List.mem_append.1 hc with hc | hc
 ·obtain ⟨j, hj⟩ := List.getElem?_of_mem hc
  have := (sum_all_take m.codes j c hj).2
  omega
 ·rw [List.mem_singleton.1 hc]
  dsimp only
  omega
theorem unit_lists {m : Mdl} (h : m.rokB = true) : ∀ p ∈ (m.unit Mk.lkL).procs, ∀ x ∈ p.code, x.l.length ≤ 1000000 := fun p hp x hx => by
 rw [unit_cods] at hp
 obtain ⟨c, hc, rfl⟩ := List.mem_map.1 hp
 have := proc_lists Mk.lkL c (N := 20000) (cods_all h c hc) x hx
 omega
theorem cods_proc {m : Mdl} (h : m.rokB = true) : m.cods.map (Mk.proc Mk.lkF) = (m.unit Mk.lkL).procs := by
 have h1 := unit_eq (rok_ok h).1
 have h2 : (m.unit Mk.lkF).procs = m.cods.map (Mk.proc Mk.lkF) := by simp [Mdl.unit, Mdl.cods]
 rw [← h2, h1]
end Mdl
theorem mod_step {wr w8 w9 : World} {O : Obj} {r : Option Nat} {b : Nat} {t : TypeId} {cs : List Value} (hx : BoxL wr b t cs) (hb : Below wr.heap.size wr w8) (hg : (w8.alloc O).grownBy w9 r) (hr : r ≠ some b) (a : Addr) (x : Value) (ha : b ≠ a.block) : BoxL (w9.setCell a x) b t cs :=
 ((app_turn hg).box (hx.keep hb) hr).other a x ha
theorem zmake_any (m : Mdl) (v : Value) (B : Nat) (w : World) (hv : MdlR w B m v) (hB : B ≤ w.heap.size) (hs : m.slim) (hn : m.codes.length ≤ 1000) :
  Calls Tryz.prog 16 #[v] w fun e w' => ∃ c p, e = .returned (.tuple #[.agg #[c, p], .int .i64 m.rErr]) ∧ UntR w' w'.heap.size m.rU (.agg #[c, p]) ∧ Below w.heap.size w w' := by
 have hv0 := hv
 obtain ⟨cc, pp, b0, b1, b2, b3, rfl, hcon, hcod, hbody⟩ := hv
 obtain ⟨q, r, u, q', r', u', rfl, rfl, rfl, rfl, hbn⟩ := TrmR.shape hbody
 obtain ⟨oc, lc, cc', rfl⟩ : ∃ o l c, cc = .slice o l c := by obtain ⟨o, l, c, h, _⟩ := hcon; exact ⟨o, l, c, h⟩
 obtain ⟨op, lp, cp, rfl⟩ := hcod.form
 obtain ⟨W2, hW2⟩ : ∃ W2, (w.alloc (.cells #[.slice oc lc cc', .slice op lp cp, .int .i64 m.body.op, .int .i64 m.body.n, .slice q r u, .slice q' r' u'] 43)).alloc (.cells #[.slice none 0 0, .slice none 0 0] 25) = W2 := ⟨_, rfl⟩
 have HB2 := Lib.hid (show Below w.heap.size w W2 from by rw [← hW2]; exact (Below.one w _).trans ((Below.one _ _).mono (by simp)))
 have HM2 := Lib.hid (show BoxL W2 w.heap.size 43 [.slice oc lc cc', .slice op lp cp, .int .i64 m.body.op, .int .i64 m.body.n, .slice q r u, .slice q' r' u'] from by rw [← hW2]; exact (BoxL.new rfl _ _).alloc _)
 have HR2 := Lib.hid (show BoxL W2 (w.heap.size + 1) 25 [.slice none 0 0, .slice none 0 0] from by rw [← hW2]; exact BoxL.new (by simp) _ _)
 have hz2 : W2.heap.size = w.heap.size + 1 + 1 := by rw [← hW2]; simp
 have HW2 := Lib.hid hW2
 have HCON := Lib.hid hcon
 have HCOD := Lib.hid hcod
 have HBODY := Lib.hid hbody
 have HCK := Lib.hid (rmod_any m _ B W2 (hv0.kept (HB2.out.mono hB)) (by omega) hs _ rfl)
 have m0 := HM2.out.cell 0 rfl
 have m1 := HM2.out.cell 1 rfl
 have m2 := HM2.out.cell 2 rfl
 have m3 := HM2.out.cell 3 rfl
 have m4 := HM2.out.cell 4 rfl
 have m5 := HM2.out.cell 5 rfl
 have ml := HM2.out.lt
 have hlp := hcod.lens.1
 have HLP := Lib.hid hlp
 have hlp2 := hcod.lens.2
 have hlpn : lp ≤ 1000 := by omega
 clear hW2 hcon hcod hbody hv0 hs hlp
 go_enter Tryz.func16, Tryz.ntmps16
 go_upto_region 1 with fail
 rw [HW2.out]
 go_wp2_with fail
 with_reducible refine HCK.out.mono ?_
 rintro e w3 ⟨rfl, hb3⟩
 have HB3 := Lib.hid (show Below w.heap.size w w3 from HB2.out.trans (hb3.mono HB2.out.size))
 have HM3 := Lib.hid (HM2.out.keep hb3)
 have HR3 := Lib.hid (HR2.out.keep hb3)
 have hz3 : w.heap.size + 2 ≤ w3.heap.size := by have := hb3.size; omega
 clear hb3 m0 m1 m2 m3 m4 m5 ml HCK HM2 HR2
 cases hok : m.rokB with
 | false =>
  have HE := Lib.hid (show m.rErr = 5 from by simp [Mdl.rErr, hok])
  have HU := Lib.hid (show m.rU = ⟨[], []⟩ from by simp [Mdl.rU, hok])
  have r0 := HR3.out.cell 0 rfl
  have r1 := HR3.out.cell 1 rfl
  have z0 := HR3.out.free 0
  have z1 := HR3.out.free 1
  have rl := HR3.out.lt
  have bN := (HR3.out.set 0 (.slice none 0 0)).set 1 (.slice none 0 0)
  have n0 := bN.cell 0 rfl
  have n1 := bN.cell 1 rfl
  have HBF := Lib.hid ((HB3.out.setCell (p := ⟨w.heap.size + 1, 0, none⟩) (by dsimp only; omega) (.slice none 0 0)).setCell (p := ⟨w.heap.size + 1, 1, none⟩) (by dsimp only; omega) (.slice none 0 0))
  clear bN
  simp only [Bool.false_eq_true, if_false]
  go_wp2_with fail
  refine bodyPost_ret (v := .tuple #[.agg #[.slice none 0 0, .slice none 0 0], .int .i64 5]) (by simp [results, Tryz.results16, go_sem, n0, n1]) rfl ⟨.slice none 0 0, .slice none 0 0, by rw [HE.out], ?_, HBF.out⟩
  rw [HU.out]
  exact ⟨_, _, rfl, ⟨none, 0, 0, rfl, rfl, Nat.le_refl _, by omega, rfl, rfl⟩, ⟨none, 0, 0, rfl, rfl, Nat.le_refl _, by omega, rfl, rfl⟩⟩
 | true =>
  simp only [if_true]
  have HOK := Lib.hid hok
  clear hok
  have m0 := HM3.out.cell 0 rfl
  have ml := HM3.out.lt
  have bz : BoxL (w3.alloc (.cells #[.slice none 0 0, .slice none 0 0] 25)) w3.heap.size 25 [.slice none 0 0, .slice none 0 0] := BoxL.new rfl _ _
  have y0 := bz.cell 0 rfl
  have y1 := bz.cell 1 rfl
  have f0 := bz.free 0
  have f1 := bz.free 1
  have yl := bz.lt
  have HBZ := Lib.hid ((bz.set 0 (.slice oc lc cc')).set 1 (.slice none 0 0))
  clear bz
  go_upto_region 4 with fail
  obtain ⟨b4, hb4⟩ : ∃ b4, w3.heap.size = b4 := ⟨_, rfl⟩
  obtain ⟨W4, hW4⟩ : ∃ W4, w3.alloc (.cells #[.slice oc lc cc', .slice none 0 0] 25) = W4 := ⟨_, rfl⟩
  have HB34 := Lib.hid (show Below w3.heap.size w3 W4 from by rw [← hW4]; exact Below.one _ _)
  have HB4 := Lib.hid (show Below w.heap.size w W4 from HB3.out.trans (HB34.out.mono (by omega)))
  have HU4 := Lib.hid (show BoxL W4 b4 25 [.slice oc lc cc', .slice none 0 0] from by rw [← hW4, ← hb4]; exact BoxL.new rfl _ _)
  have HM4 := Lib.hid (HM3.out.keep HB34.out)
  have HR4 := Lib.hid (HR3.out.keep HB34.out)
  have hH4 : w.heap.size + 1 < b4 := by omega
  rw [hW4, hb4]
  clear y0 y1 f0 f1 yl HBZ hW4 hb4 m0 ml
  have HLC := Lib.hid (show m.cods.length = lp + 1 from by rw [Mdl.cods, List.length_append, HLP.out]; rfl)
  have HI0 := Lib.hid (show MuI (m.cods.map (Mk.proc Mk.lkF)) m.consts 0 w.heap.size b4 (.slice oc lc cc') (.slice none 0 0) [] w 0 W4 from
   ⟨.slice none 0 0, [], HB4.out, HR4.out, HU4.out, ⟨_, _, _, rfl⟩, World.ownsRow_nil _ _ _ _, rfl, ⟨w, B, fun b o v hc => by
    have hl : b < w.heap.size := cell_lt hc
    refine ⟨Nat.lt_of_lt_of_le hl HB4.out.size, fun h => ?_, keepC HB4.out hc⟩
    rcases h with h | h | h
    ·omega
    ·omega
    ·simp [Value.ownBlock] at h, Nat.le_trans hB HB4.out.size, HCON.out⟩, World.ownsRow_nil _ _ _ _⟩)
  clear HU4 HR4 HM3 HR3 HB34
  have m1 := HM4.out.cell 1 rfl
  have ml := HM4.out.lt
  go_wp2_with fail
  go_loopg [5] lp (fun G i wr => ∃ j : Nat, G = lp - j ∧ j ≤ lp ∧ i = .int .i64 j ∧ Hid (MuI (m.cods.map (Mk.proc Mk.lkF)) m.consts 0 w.heap.size b4 (.slice oc lc cc') (.slice none 0 0) [] w j wr) ∧ Hid (BoxL wr w.heap.size 43 [.slice oc lc cc', .slice op lp cp, .int .i64 m.body.op, .int .i64 m.body.n, .slice q r u, .slice q' r' u']))
  case atStart => exact ⟨0, rfl, by omega, rfl, HI0, HM4⟩
  case round =>
   obtain ⟨j, rfl, hj, rfl, HI, HM5⟩ := hrel
   clear HI0 m1 ml HM4
   obtain ⟨v, xs, hb, hbr, hbx, ⟨o5, l5, c5, rfl⟩, hown, hcs, hcons, hrow⟩ := HI.out
   have m1 := HM5.out.cell 1 rfl
   have m2 := HM5.out.cell 2 rfl
   have m3 := HM5.out.cell 3 rfl
   have m4 := HM5.out.cell 4 rfl
   have m5 := HM5.out.cell 5 rfl
   have ml := HM5.out.lt
   have b0 := hbx.cell 0 rfl
   have b1 := hbx.cell 1 rfl
   have bl := hbx.lt
   by_cases hjl : j < lp
   ·obtain ⟨c, hcj⟩ : ∃ c, m.codes[j]? = some c := ⟨_, List.getElem?_eq_getElem (by rw [← HLP.out]; exact hjl)⟩
    obtain ⟨tb, toff, cs, hto, htb, hcl, hcell, hcr⟩ := HCOD.out.at (hb.mono hB) hcj
    subst hto
    obtain ⟨ov', lv', cv', q1, r1, u1, q2, r2, u2, rfl, hsv, hst⟩ := codR_shape hcr
    have e0 := hcell 0 _ rfl
    have e1 := hcell 1 _ rfl
    have e2 := hcell 2 _ rfl
    have e3 := hcell 3 _ rfl
    have e4 := hcell 4 _ rfl
    have e5 := hcell 5 _ rfl
    rw [Nat.add_zero] at e0
    have hel := cell_lt e0
    have hcm : m.cods[j]? = some c := by rw [Mdl.cods, List.getElem?_append_left (by rw [← HLP.out]; exact hjl)]; exact hcj
    obtain ⟨p, hp⟩ : ∃ p, Mk.proc Mk.lkF c = p := ⟨_, rfl⟩
    have HPJ := Lib.hid (show (m.cods.map (Mk.proc Mk.lkF))[j]? = some p from by rw [List.getElem?_map, hcm, ← hp]; rfl)
    have HAL := Lib.hid (show p.alive = [] from by rw [← hp]; rfl)
    obtain ⟨nc, nk, fr, sc, hwf⟩ := cods_wf (Mdl.rok_ok HOK.out).1 c (List.mem_of_getElem? hcm)
    have HPR := Lib.hid (zproc_any c _ _ _ _ _ B nc nk fr sc wr.drew (CodR.kept hcr ((hb.mono hB).drew)) (by have := hb.size; show B ≤ wr.heap.size; omega) hwf ⟨cods_short (Mdl.rok_ok HOK.out).1 c (List.mem_of_getElem? hcm), by have := Mdl.cods_all HOK.out c (List.mem_of_getElem? hcm); omega⟩)
    rw [hp] at HPR
    have HOWN := Lib.hid hown
    have HBB := Lib.hid hb
    have HRB := Lib.hid hbr
    have HXB := Lib.hid hbx
    have HCS := Lib.hid hcs
    have HCN := Lib.hid hcons
    have HRW := Lib.hid hrow
    have HD7 := Lib.hid (show Below wr.heap.size wr wr.drew from (Below.refl _ _).drew)
    have hzr : w.heap.size + 2 ≤ wr.heap.size := by have := hbx.lt; omega
    obtain ⟨i0, hi, hz0, hz1, hz2⟩ := info_parts info_procC
    have hjs : j ≤ 1001 := by omega
    clear hcj hcm hcr hcell hcl hsv hst hb hbr hbx hown hcs hcons hrow hwf hp
    go_upto_region 7 with fail
    clear m2 m3 m4 m5
    go_region_law (first
     | (refine step_append_lies _ rfl (.tmp 21) (.tmp 28) 23 rfl (w.heap.size + 2) 31 i0 (.agg #[.int .i64 0, .bool false, .int .i64 0, .slice none 0 0, .slice none 0 0]) 5 72 Tryz.underlying23 hi hz0 hz1 hz2 rfl (by decide) (.slice o5 l5 c5) j xs rfl (HO8.out.alloc _) ⟨w8.heap.size, 0, none⟩ 1 1 [.int .i64 p.args, .bool p.rest, .int .i64 p.regs, .slice o8 l8 c8, .slice none 0 0] rfl rfl (new_cells w8 _ _) (by intro u hu; simp only [List.mem_cons, List.not_mem_nil, or_false] at hu; rcases hu with rfl | rfl | rfl | rfl | rfl <;> rfl) (by decide) (by unfold maxLen; omega) (by omega) (by have := HW8.out.size; simp; omega) (w8.heap.size + 1) (by simp) ?_; intro g7 cap7 w9 hown9 hgr9 hlie9 hlt9; have HST := Lib.hid (muI_step HBB.out HRB.out HXB.out HOWN.out HCS.out HCN.out HRW.out hH4 HPJ.out HW8.out (Below.one w8 _) hgr9 HSL8.out HAR8.out.1 HAR8.out.2 HAL.out hown9 (hlie9.imp id (fun h => by rw [h]; simp))); have HMB := Lib.hid (mod_step HM5.out HW8.out hgr9 (fun e => row_box_ne HOWN.out e HM5.out (by decide) rfl) ⟨b4, 1, none⟩ (.slice (some ⟨g7, 0, none⟩) (j + 1) cap7) (by dsimp only; omega)); have t0 := HST.out.1.cell 1 rfl; have tz := HST.out.1.free 1; have tl := HST.out.1.lt; clear hown9 hgr9 hlie9 hlt9)
     | (go_simp; go_wp2_with (go_at_call 43; (with_reducible refine HPR.out.mono ?_); rintro e w8 ⟨o8, l8, c8, rfl, hpr8, hb8⟩; have HW8 := Lib.hid (Below.next HD7.out hb8); have HO8 := Lib.hid (ownsRow_keep HOWN.out HW8.out); have HSL8 := Lib.hid (procR_low hpr8 HD7.out.size); have HAR8 := Lib.hid (procR_args hpr8); have k1 := (HXB.out.keep HW8.out).cell 1 rfl; have kl := (HXB.out.keep HW8.out).lt; clear hpr8 hb8)))
    all_goals
     have HN := Lib.hid HST.out.2
     clear t0 tz tl
     go_wp2_with fail
     go_roundg (lp - (j + 1))
     case measure => omega
     case rel => exact ⟨j + 1, by omega, by omega, by go_num, HN, HMB⟩
   ·obtain rfl : j = lp := by omega
    have hcm : m.cods[j]? = some ⟨[], false, m.body⟩ := by
     rw [Mdl.cods, HLP.out, List.getElem?_append_right (Nat.le_refl _)]
     simp
    obtain ⟨p, hp⟩ : ∃ p, Mk.proc Mk.lkF ⟨[], false, m.body⟩ = p := ⟨_, rfl⟩
    have HPJ := Lib.hid (show (m.cods.map (Mk.proc Mk.lkF))[j]? = some p from by rw [List.getElem?_map, hcm, ← hp]; rfl)
    have HAL := Lib.hid (show p.alive = [] from by rw [← hp]; rfl)
    obtain ⟨nc, nk, fr, sc, hwf⟩ := cods_wf (Mdl.rok_ok HOK.out).1 _ (List.mem_of_getElem? hcm)
    have HPR := Lib.hid (zproc_any ⟨[], false, m.body⟩ (.slice none 0 0) _ _ _ _ B nc nk fr sc wr.drew ⟨_, _, _, _, _, rfl, ⟨none, 0, 0, rfl, rfl, Nat.le_refl _, by omega, rfl, rfl⟩, TrmR.kept ((hb.mono hB).drew) _ _ HBODY.out⟩ (by have := hb.size; show B ≤ wr.heap.size; omega) hwf ⟨by simp, by have := Mdl.cods_all HOK.out _ (List.mem_of_getElem? hcm); dsimp only at this ⊢; omega⟩)
    rw [hp] at HPR
    have HOWN := Lib.hid hown
    have HBB := Lib.hid hb
    have HRB := Lib.hid hbr
    have HXB := Lib.hid hbx
    have HCS := Lib.hid hcs
    have HCN := Lib.hid hcons
    have HRW := Lib.hid hrow
    have HD7 := Lib.hid (show Below wr.heap.size wr wr.drew from (Below.refl _ _).drew)
    have hzr : w.heap.size + 2 ≤ wr.heap.size := by have := hbx.lt; omega
    obtain ⟨i0, hi, hz0, hz1, hz2⟩ := info_parts info_procC
    have hjs : j ≤ 1001 := by omega
    clear hcm hb hbr hbx hown hcs hcons hrow hwf hp
    go_upto_region 8 with fail
    clear m1
    go_region_law (first
     | (refine step_append_lies _ rfl (.tmp 32) (.tmp 37) 23 rfl (w.heap.size + 2) 31 i0 (.agg #[.int .i64 0, .bool false, .int .i64 0, .slice none 0 0, .slice none 0 0]) 5 72 Tryz.underlying23 hi hz0 hz1 hz2 rfl (by decide) (.slice o5 l5 c5) j xs rfl (HO8.out.alloc _) ⟨w8.heap.size, 0, none⟩ 1 1 [.int .i64 p.args, .bool p.rest, .int .i64 p.regs, .slice o8 l8 c8, .slice none 0 0] rfl rfl (new_cells w8 _ _) (by intro u hu; simp only [List.mem_cons, List.not_mem_nil, or_false] at hu; rcases hu with rfl | rfl | rfl | rfl | rfl <;> rfl) (by decide) (by unfold maxLen; omega) (by omega) (by have := HW8.out.size; simp; omega) (w8.heap.size + 1) (by simp) ?_; intro g7 cap7 w9 hown9 hgr9 hlie9 hlt9; have HST := Lib.hid (muI_step HBB.out HRB.out HXB.out HOWN.out HCS.out HCN.out HRW.out hH4 HPJ.out HW8.out (Below.one w8 _) hgr9 HSL8.out HAR8.out.1 HAR8.out.2 HAL.out hown9 (hlie9.imp id (fun h => by rw [h]; simp))); have HMB := Lib.hid (mod_step HM5.out HW8.out hgr9 (fun e => row_box_ne HOWN.out e HM5.out (by decide) rfl) ⟨b4, 1, none⟩ (.slice (some ⟨g7, 0, none⟩) (j + 1) cap7) (by dsimp only; omega)); have t0 := HST.out.1.cell 1 rfl; have tz := HST.out.1.free 1; have tl := HST.out.1.lt; clear hown9 hgr9 hlie9 hlt9)
     | (go_simp; go_wp2_with (go_at_call 43; (with_reducible refine HPR.out.mono ?_); rintro e w8 ⟨o8, l8, c8, rfl, hpr8, hb8⟩; have HW8 := Lib.hid (Below.next HD7.out hb8); have HO8 := Lib.hid (ownsRow_keep HOWN.out HW8.out); have HSL8 := Lib.hid (procR_low hpr8 HD7.out.size); have HAR8 := Lib.hid (procR_args hpr8); have k1 := (HXB.out.keep HW8.out).cell 1 rfl; have kl := (HXB.out.keep HW8.out).lt; clear hpr8 hb8)))
    all_goals
     obtain ⟨wN, hwN⟩ : ∃ wN, w9.setCell ⟨b4, 1, none⟩ (.slice (some ⟨g7, 0, none⟩) (j + 1) cap7) = wN := ⟨_, rfl⟩
     have hst0 := HST.out.2
     rw [hwN] at hst0
     obtain ⟨v6, xs6, hb, hbr, hbx, ⟨o6, l6, c6, rfl⟩, hown, hcs, ⟨U, B', hsub, hB', hrs⟩, hrow⟩ := hst0
     have HPS := Lib.hid (show (m.cods.map (Mk.proc Mk.lkF)).take (j + 1) = (m.unit Mk.lkL).procs from by
      rw [← Mdl.cods_proc HOK.out]
      exact List.take_of_length_le (by rw [List.length_map, HLC.out]; exact Nat.le_refl _))
     rw [HPS.out] at hcs
     have HLN := Lib.hid (show (m.unit Mk.lkL).procs.length = j + 1 from by rw [← Mdl.cods_proc HOK.out, List.length_map, HLC.out])
     have HUR := Lib.hid (show UntR wN wN.heap.size (m.unit Mk.lkL) (.agg #[.slice oc lc cc', .slice o6 l6 c6]) from
      ⟨_, _, rfl, hrs.cellsTo hsub.cells hB', slC_of_row (te := 31) (base := w.heap.size + 2) (by rw [HLN.out]; exact hown) (hcs.mono fun x _ cs h => h.read)⟩)
     have HCK2 := Lib.hid (rcheck_any (m.unit Mk.lkL) _ wN.heap.size wN HUR.out (Nat.le_refl _) (fun p hp _ x hx => Mdl.unit_lists HOK.out p hp x hx))
     have HBC := Lib.hid hb
     have HRC := Lib.hid hbr
     have HXC := Lib.hid hbx
     have HCC := Lib.hid hcs
     have HOWC := Lib.hid hown
     have HSUB := Lib.hid hsub
     have HRS := Lib.hid hrs
     have hB'' := hB'
     clear hb hbr hbx hown hcs hsub hrs hrow hB'
     go_upto_region 9 with fail
     rw [hwN]
     clear t0 tz tl hwN HST HMB
     have q0 := HXC.out.cell 0 rfl
     have q1 := HXC.out.cell 1 rfl
     have ql := HXC.out.lt
     go_wp2_with fail
     with_reducible refine HCK2.out.mono ?_
     rintro e wE ⟨rfl, hb9⟩
     have HB9 := Lib.hid hb9
     have HB99 := Lib.hid (HBC.out.trans (hb9.mono HBC.out.size))
     have HR9 := Lib.hid (HRC.out.keep hb9)
     have HX9 := Lib.hid (HXC.out.keep hb9)
     clear hb9 q0 q1 ql HCK2
     have r0 := HR9.out.cell 0 rfl
     have r1 := HR9.out.cell 1 rfl
     have z0 := HR9.out.free 0
     have z1 := HR9.out.free 1
     have rl := HR9.out.lt
     cases hok2 : (m.unit Mk.lkL).okB with
     | false =>
      have he : (m.unit Mk.lkL).err = 5 := by simp [Unt.err, hok2]
      have HE := Lib.hid (show m.rErr = 5 from by simp [Mdl.rErr, hok2])
      have HU := Lib.hid (show m.rU = ⟨[], []⟩ from by simp [Mdl.rU, hok2])
      rw [he]
      clear he hok2
      have bN := (HR9.out.set 0 (.slice none 0 0)).set 1 (.slice none 0 0)
      have n0 := bN.cell 0 rfl
      have n1 := bN.cell 1 rfl
      have HBF := Lib.hid ((HB99.out.setCell (p := ⟨w.heap.size + 1, 0, none⟩) (by dsimp only; omega) (.slice none 0 0)).setCell (p := ⟨w.heap.size + 1, 1, none⟩) (by dsimp only; omega) (.slice none 0 0))
      clear bN
      go_wp2_with fail
      refine bodyPost_ret (v := .tuple #[.agg #[.slice none 0 0, .slice none 0 0], .int .i64 5]) (by simp [results, Tryz.results16, go_sem, n0, n1]) rfl ⟨.slice none 0 0, .slice none 0 0, by rw [HE.out], ?_, HBF.out⟩
      rw [HU.out]
      exact ⟨_, _, rfl, ⟨none, 0, 0, rfl, rfl, Nat.le_refl _, by omega, rfl, rfl⟩, ⟨none, 0, 0, rfl, rfl, Nat.le_refl _, by omega, rfl, rfl⟩⟩
     | true =>
      have he : (m.unit Mk.lkL).err = 0 := by simp [Unt.err, hok2]
      have HE := Lib.hid (show m.rErr = 0 from by simp [Mdl.rErr, hok2, HOK.out])
      have HU := Lib.hid (show m.rU = m.unit Mk.lkL from by simp [Mdl.rU, hok2, HOK.out])
      rw [he]
      clear he hok2
      have q0 := HX9.out.cell 0 rfl
      have q1 := HX9.out.cell 1 rfl
      have ql := HX9.out.lt
      have bN := (HR9.out.set 0 (.slice oc lc cc')).set 1 (.slice o6 l6 c6)
      have n0 := bN.cell 0 rfl
      have n1 := bN.cell 1 rfl
      have HBF := Lib.hid ((HB99.out.setCell (p := ⟨w.heap.size + 1, 0, none⟩) (by dsimp only; omega) (.slice oc lc cc')).setCell (p := ⟨w.heap.size + 1, 1, none⟩) (by dsimp only; omega) (.slice o6 l6 c6))
      have hst : ∀ V, Sub (fun b => b = b4 ∨ b = w.heap.size + 1 ∨ (Value.slice o6 l6 c6).ownBlock = some b) V wN → Sub (fun b => b = b4 ∨ b = w.heap.size + 1 ∨ (Value.slice o6 l6 c6).ownBlock = some b) V ((wE.setCell ⟨w.heap.size + 1, 0, none⟩ (.slice oc lc cc')).setCell ⟨w.heap.size + 1, 1, none⟩ (.slice o6 l6 c6)) := fun V hV => ((hV.below HB9.out).set ⟨w.heap.size + 1, 0, none⟩ _ (.inr (.inl rfl))).set ⟨w.heap.size + 1, 1, none⟩ _ (.inr (.inl rfl))
      have HUF := Lib.hid (show UntR ((wE.setCell ⟨w.heap.size + 1, 0, none⟩ (.slice oc lc cc')).setCell ⟨w.heap.size + 1, 1, none⟩ (.slice o6 l6 c6)) ((wE.setCell ⟨w.heap.size + 1, 0, none⟩ (.slice oc lc cc')).setCell ⟨w.heap.size + 1, 1, none⟩ (.slice o6 l6 c6)).heap.size (m.unit Mk.lkL) (.agg #[.slice oc lc cc', .slice o6 l6 c6]) from by
       have hz9 := HB9.out.size
       refine ⟨_, _, rfl, HRS.out.cellsTo (hst U HSUB.out).cells (by rw [World.size_setCell, World.size_setCell]; omega), ?_⟩
       refine slC_of_row (te := 31) (base := w.heap.size + 2) ?_ (HCC.out.mono fun x _ cs h => (h.to hst (by rw [World.size_setCell, World.size_setCell]; exact hz9)).read)
       rw [HLN.out]
       exact ownsRow_setCell_below (ownsRow_setCell_below (ownsRow_keep HOWC.out HB9.out) (a := ⟨w.heap.size + 1, 0, none⟩) (by dsimp only; omega) _) (a := ⟨w.heap.size + 1, 1, none⟩) (by dsimp only; omega) _)
      clear bN hst
      go_wp2_with fail
      refine bodyPost_ret (v := .tuple #[.agg #[.slice oc lc cc', .slice o6 l6 c6], .int .i64 0]) (by simp [results, Tryz.results16, go_sem, n0, n1]) rfl ⟨.slice oc lc cc', .slice o6 l6 c6, by rw [HE.out], ?_, HBF.out⟩
      rw [HU.out]
      exact HUF.out
end
end Go.Proofs.YtigkhmppnnljiaaGreatDoor

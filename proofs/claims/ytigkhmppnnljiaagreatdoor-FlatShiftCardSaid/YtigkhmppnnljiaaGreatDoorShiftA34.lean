/-
  What the proofs lean on: MkQ.
-/
import Derived.Test.YtigkhmppnnljiaaGreatDoorShiftA22
import Derived.Test.YtigkhmppnnljiaaGreatDoorShiftA33
namespace Go.Proofs.YtigkhmppnnljiaaGreatDoor
open Go Go.RowKit Mk

theorem IntsM.gap {W : World} {S : Nat → Prop} {H : Nat} {l : List Int} {v : Value} (h : IntsM W S l v) (hS : ∀ b, b < H → S b) : SlC (Go.Proofs.YtigkhmppnnljiaaGreatDoor.gap W 0 H) W.heap.size 1 IntR l v := by
  obtain ⟨⟨o, len, cap, rfl, h1, h2, h3, h4⟩, h5⟩ := h
  refine ⟨o, len, cap, rfl, h1, h2, h3, ?_⟩
  cases o with
  | none => exact h4
  | some a =>
    by_cases hl : l = []
    · subst hl
      exact ⟨fun h => absurd rfl h, fun i x hx => by simp at hx⟩
    · have hb : H ≤ a.block := Nat.le_of_not_lt fun hlt => h5 a.block rfl hl (hS _ hlt)
      refine ⟨h4.1, fun i x hx => ?_⟩
      obtain ⟨cs, g1, g2, g3⟩ := h4.2 i x hx
      exact ⟨cs, g1, fun j u hj => (gap_other (by omega)).trans (g2 j u hj), g3⟩
/-- The maker's row, read without what was there before. -/
theorem MkS.gap {W : World} {base mb vb H : Nat} {cv : Value} {X : Nat → Prop} {s : MSt} (h : MkS W base mb vb cv X s) (hH : H ≤ base) (hX : ∀ b, b < H → X b) : SlC (Go.Proofs.YtigkhmppnnljiaaGreatDoor.gap W 0 H) W.heap.size 5 (InsR (Go.Proofs.YtigkhmppnnljiaaGreatDoor.gap W 0 H) W.heap.size) s.code cv := by
  obtain ⟨xs, hr, hc⟩ := h.row
  have h1 := slC_of_row (ownsRow_gap (lo := 0) hr hH) (hc.mono fun x _ cs hx => show InsR (Go.Proofs.YtigkhmppnnljiaaGreatDoor.gap W 0 H) W.heap.size x cs from by
    obtain ⟨sl, rfl, a1, a2, a3, a4, a5⟩ := hx
    exact ⟨sl, rfl, a1, a2, a3, a4, a5.gap fun b hb => .inr (hX b hb)⟩)
  rwa [gap_size] at h1
/-- The variables of a code, so many of them. -/
def varsTo (v : List Int) (j : Nat) : List (Int × Int) := (v.take j).zip ((List.range j).map fun (i : Nat) => (i : Int))
theorem varsTo_snoc {v : List Int} {j : Nat} {x : Int} (hx : v[j]? = some x) : varsTo v (j + 1) = varsTo v j ++ [(x, (j : Int))] := by
  have hj := (List.getElem?_eq_some_iff.1 hx).1
  unfold varsTo
  rw [List.take_add_one, hx, List.range_succ, List.map_append, List.zip_append (by simp; omega)]
  rfl
theorem varsTo_length (v : List Int) (j : Nat) (h : j ≤ v.length) : (varsTo v j).length = j := by simp [varsTo]; omega

/-- What proc leaves. -/
def ProcPost (H : Nat) (p : Proc) (w : World) (e : Ending) (w' : World) : Prop := ∃ o l c, e = .returned (.agg #[.int .i64 p.args, .bool p.rest, .int .i64 p.regs, .slice o l c, .slice none 0 0]) ∧ ProcR (Go.Proofs.YtigkhmppnnljiaaGreatDoor.gap w' 0 H) w'.heap.size p [.int .i64 p.args, .bool p.rest, .int .i64 p.regs, .slice o l c, .slice none 0 0] ∧ Below w.heap.size w w'

set_option maxHeartbeats 8000000 in
set_option maxRecDepth 100000 in
theorem proc_any (c : Cod) (vs c0 c1 c2 c3 : Value) (B : Nat) (nc nk : Int) (fr : Bool) (sc : Int → Bool) (W : World) (hv : CodR W B c [vs, .bool c.rest, c0, c1, c2, c3]) (hB : B ≤ W.heap.size) (hw : Trm.wf nc nk fr c.body sc = true) (hroom : c.v.length ≤ 1000001 ∧ 6 * c.body.all ≤ 800000) :
    Calls Tryz.prog 41 #[.agg #[vs, .bool c.rest, c0, c1, c2, c3]] W (ProcPost W.heap.size (Mk.proc Mk.lkL c) W) := by
  obtain ⟨vs', b0, b1, b2, b3, he, hvs, hbody⟩ := hv
  simp only [List.cons.injEq, and_true] at he
  obtain ⟨rfl, _, rfl, rfl, rfl, rfl⟩ := he
  obtain ⟨v, rest, body⟩ := c
  dsimp only at *
  obtain ⟨ov, lv, cvv, rfl⟩ := hvs.form
  obtain ⟨hlv, hlc, hlm⟩ := hvs.lens
  obtain ⟨q, r, u, q', r', u', rfl, rfl, rfl, rfl, hbn⟩ := TrmR.shape hbody
  obtain ⟨W4, hW4⟩ : ∃ W4, (((W.alloc (.cells #[.slice ov lv cvv, .bool rest, .int .i64 body.op, .int .i64 body.n, .slice q r u, .slice q' r' u'] 50)).alloc (.cells #[.int .i64 0, .bool false, .int .i64 0, .slice none 0 0, .slice none 0 0] 31)).alloc (.map #[] 0)).alloc (.cells #[.slice none 0 0, .int .i64 lv, .map (some (W.heap.size + 1 + 1))] 110) = W4 := ⟨_, rfl⟩
  have HB4 := Lib.hid (show Below W.heap.size W W4 from by rw [← hW4]; exact below_four W _ _ _ _)
  have HC := Lib.hid (show BoxL W4 W.heap.size 50 [.slice ov lv cvv, .bool rest, .int .i64 body.op, .int .i64 body.n, .slice q r u, .slice q' r' u'] from by rw [← hW4]; exact (((BoxL.new rfl _ _).alloc _).alloc _).alloc _)
  have HP := Lib.hid (show BoxL W4 (W.heap.size + 1) 31 [.int .i64 0, .bool false, .int .i64 0, .slice none 0 0, .slice none 0 0] from by rw [← hW4]; exact ((BoxL.new (by simp) _ _).alloc _).alloc _)
  have HM := Lib.hid (show MapVI W4 (W.heap.size + 1 + 1) 0 (fun _ => 0) from by
    rw [← hW4]
    have h := MapVI.new ((W.alloc (.cells #[.slice ov lv cvv, .bool rest, .int .i64 body.op, .int .i64 body.n, .slice q r u, .slice q' r' u'] 50)).alloc (.cells #[.int .i64 0, .bool false, .int .i64 0, .slice none 0 0, .slice none 0 0] 31))
    rw [show ((W.alloc (.cells #[.slice ov lv cvv, .bool rest, .int .i64 body.op, .int .i64 body.n, .slice q r u, .slice q' r' u'] 50)).alloc (.cells #[.int .i64 0, .bool false, .int .i64 0, .slice none 0 0, .slice none 0 0] 31)).heap.size = W.heap.size + 1 + 1 by simp] at h
    exact h.keep (Below.one _ _))
  have HX := Lib.hid (show BoxL W4 (W.heap.size + 1 + 1 + 1) 110 [.slice none 0 0, .int .i64 lv, .map (some (W.heap.size + 1 + 1))] from by rw [← hW4]; exact BoxL.new (by simp) _ _)
  have hs4 : W4.heap.size = W.heap.size + 1 + 1 + 1 + 1 := by rw [← hW4]; simp
  have HI := Lib.hid (show MkIn W4 B (W.heap.size + 1 + 1 + 1 + 1) (W.heap.size + 1 + 1 + 1) (W.heap.size + 1 + 1) (.slice none 0 0) (fun b => b < W.heap.size + 1 + 1) ⟨[], lv, varsTo v 0⟩ from
    ⟨⟨HX.out, ⟨[], World.ownsRow_nil _ _ _ _, rfl⟩, by
      have e : Mk.lkL (varsTo v 0) = fun _ => 0 := by funext x; simp [varsTo, Mk.lkL]
      rw [e]
      exact HM.out⟩, by omega, by omega, by omega, by omega, fun b hb => by omega⟩)
  have HV := Lib.hid (show SlC W4 B 1 IntR v (.slice ov lv cvv) from hvs.kept (HB4.out.mono hB) fun _ _ _ h => h)
  have HBD := Lib.hid (TrmR.kept (HB4.out.mono hB) _ _ hbody)
  have HW := Lib.hid hW4
  have HLV := Lib.hid hlv
  have HS4 := Lib.hid hs4
  have HWF := Lib.hid hw
  have hbp := body.all_pos
  have HRO := Lib.hid hroom
  have hlr : lv ≤ 1000001 := by omega
  clear hW4 hlv hs4 hw hroom hvs hbody hbn HM HX
  have hmm := @run_makeMap Tryz.prog
  go_enter Tryz.func41, Tryz.ntmps41
  go_upto_region 2 with fail
  rw [HW.out]
  have e0 := HC.out.cell 0 rfl
  have el := HC.out.lt
  go_wp2_with fail
  go_loopg [15] lv (fun g i wr => ∃ (j : Nat), g = lv - j ∧ i = .int .i64 j ∧ j ≤ lv ∧ Hid (MkGo B (W.heap.size + 1 + 1 + 1 + 1) (W.heap.size + 1 + 1 + 1) (W.heap.size + 1 + 1) (.slice none 0 0) (.slice none 0 0) (fun b => b < W.heap.size + 1 + 1) ⟨[], lv, varsTo v j⟩ W4 wr))
  case atStart => exact ⟨0, rfl, rfl, by omega, Lib.hid (MkGo.refl HI.out)⟩
  case round =>
    obtain ⟨j, rfl, rfl, hj, HG⟩ := hrel
    clear e0 el
    by_cases hjl : j < lv
    · obtain ⟨x, hx⟩ : ∃ x, v[j]? = some x := ⟨_, List.getElem?_eq_getElem (by rw [← HLV.out]; exact hjl)⟩
      obtain ⟨xb, xoff, hxo, hxb, hxc, hxi⟩ := SlC.int (HV.out.kept HG.out.low fun _ _ _ h => h) hx
      subst hxo
      have hxl := cell_lt hxc
      have HXI := Lib.hid hxi
      have HSN := Lib.hid (varsTo_snoc hx)
      have HVL := Lib.hid (varsTo_length v j (by have := HLV.out; omega))
      have m2 := HG.out.inn.st.box.cell 2 rfl
      have ml := HG.out.inn.st.box.lt
      clear hx hxi
      go_wp2_with (at_mapUpdate; refine wpList_putVI rfl _ _ _ rfl (W.heap.size + 1 + 1) _ _ rfl HG.out.inn.st.vars (by show (varsTo v j).length < _; rw [HVL.out]; omega) x (j : Int) rfl rfl HXI.out ⟨by omega, by omega⟩ ?_; intro w4 hm4 hg4; have HG4 := Lib.hid (HG.out.next (HG.out.inn.bound x (j : Int) hm4 hg4)); clear hm4 hg4)
      have HG5 := Lib.hid (show MkGo B (W.heap.size + 1 + 1 + 1 + 1) (W.heap.size + 1 + 1 + 1) (W.heap.size + 1 + 1) (.slice none 0 0) (.slice none 0 0) (fun b => b < W.heap.size + 1 + 1) ⟨[], lv, varsTo v (j + 1)⟩ W4 w4 from by rw [HSN.out]; exact HG4.out)
      clear HG4
      go_roundg (lv - (j + 1))
      case measure => omega
      case rel => exact ⟨j + 1, rfl, by go_num, by omega, HG5⟩
    · obtain rfl : j = lv := by omega
      have hvt : varsTo v j = v.zip ((List.range v.length).map fun (i : Nat) => (i : Int)) := by unfold varsTo; rw [HLV.out, List.take_length]
      have hg := HG.out
      rw [hvt] at hg
      have HG2 := Lib.hid hg
      have HC2 := Lib.hid (hg.box HI.out HC.out (by decide) (by decide))
      have HP2 := Lib.hid (hg.box HI.out HP.out (by decide) (by decide))
      have hrm : Room ⟨[], (j : Int), v.zip ((List.range v.length).map fun (i : Nat) => (i : Int))⟩ (6 * body.all) := by
        have h1 := HRO.out
        have h2 := HLV.out
        refine ⟨by simp; omega, by simp, by dsimp only; omega, fun p hp => ?_, by simp; omega⟩
        have := (List.of_mem_zip hp).2
        simp only [List.mem_map, List.mem_range] at this
        obtain ⟨i, hi, e⟩ := this
        omega
      have HIN := Lib.hid (into_any body.all body (Nat.le_refl _) true _ _ _ _ B _ _ _ _ _ _ 0 nc nk fr sc wr (TrmR.kept hg.low _ _ HBD.out) hg.inn HWF.out (hrm.mono (by omega)) ⟨by omega, by omega⟩)
      have HRM := Lib.hid (Room.into Mk.lkL_ok body 0 true _ 0 (hrm.mono (by omega)))
      obtain ⟨S, hS⟩ : ∃ S, Mk.into Mk.lkL body 0 true ⟨[], (j : Int), v.zip ((List.range v.length).map fun (i : Nat) => (i : Int))⟩ = S := ⟨_, rfl⟩
      rw [hS] at HIN HRM
      have HFIN := Lib.hid (show Mk.proc Mk.lkL ⟨v, rest, body⟩ = ⟨(j : Int), rest, S.regs, S.code, []⟩ from by
        have := HLV.out
        unfold Mk.proc
        dsimp only
        rw [← hS, this])
      have e0 := HC2.out.cell 2 rfl
      have e1 := HC2.out.cell 3 rfl
      have e2 := HC2.out.cell 4 rfl
      have e3 := HC2.out.cell 5 rfl
      have el := HC2.out.lt
      clear hg hvt hrm hS HG
      go_wp2_with fail
      with_reducible refine HIN.out.mono ?_
      rintro e w3 ⟨rfl, cv3, hg3⟩
      have HG3 := Lib.hid (HG2.out.next hg3)
      have HC3 := Lib.hid (hg3.box HG2.out.inn HC2.out (by decide) (by decide))
      have HP3 := Lib.hid (hg3.box HG2.out.inn HP2.out (by decide) (by decide))
      clear hg3 e0 e1 e2 e3 el
      have q0 := HC3.out.cell 0 rfl
      have q1 := HC3.out.cell 1 rfl
      have ql := HC3.out.lt
      have m0 := HG3.out.inn.st.box.cell 0 rfl
      have m1 := HG3.out.inn.st.box.cell 1 rfl
      have ml := HG3.out.inn.st.box.lt
      obtain ⟨oc, lc, cc, rfl⟩ : ∃ oc lc cc, cv3 = .slice oc lc cc := by
        obtain ⟨xs, hr, _⟩ := HG3.out.inn.st.row
        rcases hr.2 with ⟨rfl, _⟩ | ⟨g, cap, cur, rfl, _⟩
        · exact ⟨_, _, _, rfl⟩
        · exact ⟨_, _, _, rfl⟩
      go_upto_region 8 with fail
      have HD := Lib.hid ((Below.refl w3.heap.size w3).drew)
      refine wp_region_quiet_class (Below w3.heap.size w3) 14 (by kernel_rfl) (by kernel_rfl) HD.out ?_
      intro T0 _ WW HWW HWW2
      have z0 : ∀ t, (WW t).cell? _ = _ := fun t => ((HWW t).cell (p := ⟨W.heap.size, 0, none⟩) ql).trans q0
      have z1 : ∀ t, (WW t).cell? _ = _ := fun t => ((HWW t).cell (p := ⟨W.heap.size, 1, none⟩) ql).trans q1
      have z2 : ∀ t, (WW t).cell? _ = _ := fun t => ((HWW t).cell (p := ⟨W.heap.size + 1 + 1 + 1, 0, none⟩) ml).trans m0
      have z3 : ∀ t, (WW t).cell? _ = _ := fun t => ((HWW t).cell (p := ⟨W.heap.size + 1 + 1 + 1, 1, none⟩) ml).trans m1
      have HWH := Lib.hid HWW
      clear HWW HWW2
      simp only [List.take_succ_cons, List.take_zero, List.drop_succ_cons, List.drop_zero]
      repeat (go_big_quiet_step (fail))
      refine wpQuiet_nil ?_
      intro t'
      obtain ⟨W3, hW3⟩ : ∃ W3, WW t' = W3 := ⟨_, rfl⟩
      have HB3 := Lib.hid (show Below w3.heap.size w3 W3 from hW3 ▸ HWH.out t')
      rw [hW3]
      clear z0 z1 z2 z3 hW3 HWH q0 q1 ql m0 m1 ml
      have HG5 := Lib.hid (HG3.out.after HB3.out)
      have HP5 := Lib.hid (HP3.out.keep HB3.out)
      have p0 := HP5.out.cell 0 rfl
      have p1 := HP5.out.cell 1 rfl
      have p2 := HP5.out.cell 2 rfl
      have p3 := HP5.out.cell 3 rfl
      have p4 := HP5.out.cell 4 rfl
      have f0 := HP5.out.free 0
      have f1 := HP5.out.free 1
      have f2 := HP5.out.free 2
      have f3 := HP5.out.free 3
      have f4 := HP5.out.free 4
      have pl := HP5.out.lt
      have bN := ((((HP5.out.set 0 (.int .i64 (j : Int))).set 1 (.bool rest)).set 2 (.int .i64 S.regs)).set 3 (.slice oc lc cc)).set 4 (.slice none 0 0)
      have n0 := bN.cell 0 rfl
      have n1 := bN.cell 1 rfl
      have n2 := bN.cell 2 rfl
      have n3 := bN.cell 3 rfl
      have n4 := bN.cell 4 rfl
      go_wp2_with fail
      obtain ⟨WF, hWF⟩ : ∃ WF, (((((W3.setCell ⟨W.heap.size + 1, 0, none⟩ (.int .i64 (j : Int))).setCell ⟨W.heap.size + 1, 1, none⟩ (.bool rest)).setCell ⟨W.heap.size + 1, 2, none⟩ (.int .i64 S.regs)).setCell ⟨W.heap.size + 1, 3, none⟩ (.slice oc lc cc)).setCell ⟨W.heap.size + 1, 4, none⟩ (.slice none 0 0)) = WF := ⟨_, rfl⟩
      rw [hWF] at n0 n1 n2 n3 n4 ⊢
      have hT : Turned (fun b => b = W.heap.size + 1) W3 WF := by
        rw [← hWF]
        have ht : ∀ (A : World) (i : Nat) (v : Value), Turned (fun b => b = W.heap.size + 1) A (A.setCell ⟨W.heap.size + 1, i, none⟩ v) := fun A i v => Turned.set (S := fun b => b = W.heap.size + 1) A ⟨W.heap.size + 1, i, none⟩ v rfl
        exact ((((ht _ _ _).next (ht _ _ _)).next (ht _ _ _)).next (ht _ _ _)).next (ht _ _ _)
      have hst := HG5.out.inn.st.keep (X' := fun b => b < W.heap.size + 1 + 1) hT (fun b _ hb => ⟨by rw [hb]; omega, by rw [hb]; exact HG5.out.inn.st.boxApart HP5.out (by decide) (by decide)⟩) (fun _ _ h => h)
      have hcode := hst.gap (H := W.heap.size) (by omega) (fun b hb => by omega)
      have hbl : Below W.heap.size W4 W3 := HG5.out.turned.below (fun b hb => by
        rcases hb with rfl | rfl | hb
        · omega
        · omega
        · simp [Value.ownBlock] at hb) HB4.out.size
      refine bodyPost_ret (v := .agg #[.int .i64 (j : Int), .bool rest, .int .i64 S.regs, .slice oc lc cc, .slice none 0 0]) (by simp [results, Tryz.results41, go_sem, n0, n1, n2, n3, n4]) rfl ⟨oc, lc, cc, by rw [HFIN.out], ?_, (HB4.out.trans hbl).trans (hT.below (fun b hb => by omega) (by have := (HB4.out.trans hbl).size; omega))⟩
      rw [HFIN.out]
      exact ⟨_, _, rfl, ⟨by dsimp only; omega, by dsimp only; omega⟩, ⟨by have := HRM.out.2.1; dsimp only; omega, by have := HRM.out.2.2.1; dsimp only; omega⟩, hcode, ⟨none, 0, 0, rfl, rfl, Nat.le_refl _, by omega, rfl, rfl⟩⟩
end Go.Proofs.YtigkhmppnnljiaaGreatDoor

/-
  What the proofs lean on: MkJ.
-/
import Derived.Test.YtigkhmppnnljiaaGreatDoorShiftA18
import Derived.Test.YtigkhmppnnljiaaGreatDoorShiftA32
namespace Go.Proofs.YtigkhmppnnljiaaGreatDoor
open Go Go.RowKit Mk

set_option maxHeartbeats 8000000 in
set_option maxRecDepth 100000 in
theorem into_choice (e : Bool) (n : Int) (v : List Int) (a b c : Trm) (ha : HadC a) (hb : IntoC e b) (hc : IntoC e c) (c0 c1 c2 c3 : Value) (B base mb vb : Nat) (cv : Value) (X : Nat → Prop) (s : MSt) (d : Int) (nc nk : Int) (fr : Bool) (sc : Int → Bool) (W : World)
    (hv : TrmR W B (.mk 3 n v [a, b, c]) [c0, c1, c2, c3]) (hm : MkIn W B base mb vb cv X s) (wa : Trm.wf nc nk fr a sc = true) (wb : Trm.wf nc nk fr b sc = true) (wc : Trm.wf nc nk fr c sc = true) (hroom : Room s (2 + 6 * Trm.allL [a, b, c])) (hd : 0 ≤ d ∧ d ≤ 1900000) :
    Calls Tryz.prog 71 #[.pointer (some ⟨mb, 0, none⟩), .agg #[c0, c1, c2, c3], .int .i64 d, .bool e] W fun r w' => r = .returned (.tuple #[]) ∧ ∃ cv', MkGo B base mb vb cv cv' X (Mk.choice Mk.lkL [a, b, c] d e s) W w' := by
  obtain ⟨W1, hW1⟩ : ∃ W1, W.alloc (.cells #[c0, c1, c2, c3] 41) = W1 := ⟨_, rfl⟩
  have hsz := hm.size
  have hv1 : TrmR W1 B (.mk 3 n v [a, b, c]) [c0, c1, c2, c3] := TrmR.kept (by rw [← hW1]; exact (Below.one W _).mono hsz) _ _ hv
  obtain ⟨ov, lv, cvv, ot, lt, ct, rfl, rfl, rfl, rfl, hn, HBX, HM, HT, HV, HB1, hlt, hlv⟩ := term_box W B base mb vb cv X s _ n v _ _ _ _ _ hv hm W1 hW1
  have HW := Lib.hid hW1
  have HC := Lib.hid (choice_any e 3 n v a b c ha hb hc _ _ _ _ B base mb vb cv X s d nc nk fr sc W1 hv1 HM.out wa wb wc hroom hd)
  have e0 := HBX.out.cell 0 rfl
  have e1 := HBX.out.cell 1 rfl
  have e2 := HBX.out.cell 2 rfl
  have e3 := HBX.out.cell 3 rfl
  have el := HBX.out.lt
  clear hv hv1 hm hW1 ha hb hc wa wb wc hroom hlt hlv hn
  go_enter Tryz.func71, Tryz.ntmps71
  go_upto_region 1 with fail
  rw [HW.out]
  go_wp2_with fail
  with_reducible refine HC.out.mono ?_
  rintro r w2 ⟨rfl, cv2, hg2⟩
  have HG9 := Lib.hid (hg2.before HB1.out hsz)
  clear hg2 e0 e1 e2 e3 el
  go_wp2_with fail
  first | go_end0 | (refine bodyPost_ret (results_none rfl _ _ _) rfl ?_)
  exact ⟨rfl, _, HG9.out⟩

set_option maxHeartbeats 8000000 in
set_option maxRecDepth 100000 in
theorem into_value (op n : Int) (v : List Int) (t : List Trm) (h3 : op ≠ 3) (h6 : op ≠ 6) (h8 : op ≠ 8) (h9 : op ≠ 9) (c0 c1 c2 c3 : Value) (B base mb vb : Nat) (cv : Value) (X : Nat → Prop) (s S : MSt) (d : Int) (W : World)
    (hv : TrmR W B (.mk op n v t) [c0, c1, c2, c3]) (hm : MkIn W B base mb vb cv X s)
    (hV : ∀ W1, TrmR W1 B (.mk op n v t) [c0, c1, c2, c3] → MkIn W1 B base mb vb cv X s → Calls Tryz.prog 112 #[.pointer (some ⟨mb, 0, none⟩), .agg #[c0, c1, c2, c3], .int .i64 d] W1 fun r w' => r = .returned (.tuple #[]) ∧ ∃ cv', MkGo B base mb vb cv cv' X S W1 w') :
    Calls Tryz.prog 71 #[.pointer (some ⟨mb, 0, none⟩), .agg #[c0, c1, c2, c3], .int .i64 d, .bool false] W fun r w' => r = .returned (.tuple #[]) ∧ ∃ cv', MkGo B base mb vb cv cv' X S W w' := by
  obtain ⟨W1, hW1⟩ : ∃ W1, W.alloc (.cells #[c0, c1, c2, c3] 41) = W1 := ⟨_, rfl⟩
  have hsz := hm.size
  have hv1 : TrmR W1 B (.mk op n v t) [c0, c1, c2, c3] := TrmR.kept (by rw [← hW1]; exact (Below.one W _).mono hsz) _ _ hv
  obtain ⟨ov, lv, cvv, ot, lt, ct, rfl, rfl, rfl, rfl, hn, HBX, HM, HT, HV, HB1, hlt, hlv⟩ := term_box W B base mb vb cv X s _ n v _ _ _ _ _ hv hm W1 hW1
  have HW := Lib.hid hW1
  have HC := Lib.hid (hV W1 hv1 HM.out)
  have f3 : (op == 3) = false := by simpa using h3
  have f6 : (op == 6) = false := by simpa using h6
  have f8 : (op == 8) = false := by simpa using h8
  have f9 : (op == 9) = false := by simpa using h9
  have e0 := HBX.out.cell 0 rfl
  have e1 := HBX.out.cell 1 rfl
  have e2 := HBX.out.cell 2 rfl
  have e3 := HBX.out.cell 3 rfl
  have el := HBX.out.lt
  clear hv hv1 hm hW1 hlt hlv hn hV h3 h6 h8 h9
  go_enter Tryz.func71, Tryz.ntmps71
  go_upto_region 1 with fail
  rw [HW.out]
  go_wp2_with fail
  with_reducible refine HC.out.mono ?_
  rintro r w2 ⟨rfl, cv2, hg2⟩
  have HG9 := Lib.hid (hg2.before HB1.out hsz)
  clear hg2 e0 e1 e2 e3 el
  go_wp2_with fail
  first | go_end0 | (refine bodyPost_ret (results_none rfl _ _ _) rfl ?_)
  exact ⟨rfl, _, HG9.out⟩

set_option maxHeartbeats 8000000 in
set_option maxRecDepth 100000 in
theorem into_end (op n : Int) (v : List Int) (t : List Trm) (h3 : op ≠ 3) (h6 : op ≠ 6) (h8 : op ≠ 8) (h9 : op ≠ 9) (c0 c1 c2 c3 : Value) (B base mb vb : Nat) (cv : Value) (X : Nat → Prop) (s S : MSt) (d : Int) (W : World)
    (hv : TrmR W B (.mk op n v t) [c0, c1, c2, c3]) (hm : MkIn W B base mb vb cv X s)
    (hV : ∀ W1, TrmR W1 B (.mk op n v t) [c0, c1, c2, c3] → MkIn W1 B base mb vb cv X s → Calls Tryz.prog 111 #[.pointer (some ⟨mb, 0, none⟩), .agg #[c0, c1, c2, c3]] W1 fun r w' => r = .returned (.tuple #[]) ∧ ∃ cv', MkGo B base mb vb cv cv' X S W1 w') :
    Calls Tryz.prog 71 #[.pointer (some ⟨mb, 0, none⟩), .agg #[c0, c1, c2, c3], .int .i64 d, .bool true] W fun r w' => r = .returned (.tuple #[]) ∧ ∃ cv', MkGo B base mb vb cv cv' X S W w' := by
  obtain ⟨W1, hW1⟩ : ∃ W1, W.alloc (.cells #[c0, c1, c2, c3] 41) = W1 := ⟨_, rfl⟩
  have hsz := hm.size
  have hv1 : TrmR W1 B (.mk op n v t) [c0, c1, c2, c3] := TrmR.kept (by rw [← hW1]; exact (Below.one W _).mono hsz) _ _ hv
  obtain ⟨ov, lv, cvv, ot, lt, ct, rfl, rfl, rfl, rfl, hn, HBX, HM, HT, HV, HB1, hlt, hlv⟩ := term_box W B base mb vb cv X s _ n v _ _ _ _ _ hv hm W1 hW1
  have HW := Lib.hid hW1
  have HC := Lib.hid (hV W1 hv1 HM.out)
  have f3 : (op == 3) = false := by simpa using h3
  have f6 : (op == 6) = false := by simpa using h6
  have f8 : (op == 8) = false := by simpa using h8
  have f9 : (op == 9) = false := by simpa using h9
  have e0 := HBX.out.cell 0 rfl
  have e1 := HBX.out.cell 1 rfl
  have e2 := HBX.out.cell 2 rfl
  have e3 := HBX.out.cell 3 rfl
  have el := HBX.out.lt
  clear hv hv1 hm hW1 hlt hlv hn hV h3 h6 h8 h9
  go_enter Tryz.func71, Tryz.ntmps71
  go_upto_region 1 with fail
  rw [HW.out]
  go_wp2_with fail
  with_reducible refine HC.out.mono ?_
  rintro r w2 ⟨rfl, cv2, hg2⟩
  have HG9 := Lib.hid (hg2.before HB1.out hsz)
  clear hg2 e0 e1 e2 e3 el
  go_wp2_with fail
  first | go_end0 | (refine bodyPost_ret (results_none rfl _ _ _) rfl ?_)
  exact ⟨rfl, _, HG9.out⟩

/-- A term's value is laid, where there is room. -/
def IntoR (r : Nat) (e : Bool) (x : Trm) : Prop := ∀ (c0 c1 c2 c3 : Value) (B base mb vb : Nat) (cv : Value) (X : Nat → Prop) (s : MSt) (d : Int) (nc nk : Int) (fr : Bool) (sc : Int → Bool) (W : World), TrmR W B x [c0, c1, c2, c3] → MkIn W B base mb vb cv X s → Trm.wf nc nk fr x sc = true → Room s r → 0 ≤ d ∧ d ≤ 1900000 →
  Calls Tryz.prog 71 #[.pointer (some ⟨mb, 0, none⟩), .agg #[c0, c1, c2, c3], .int .i64 d, .bool e] W fun q w' => q = .returned (.tuple #[]) ∧ ∃ cv', MkGo B base mb vb cv cv' X (Mk.into Mk.lkL x d e s) W w'
/-- A term's register, where there is room. -/
def HadR (r : Nat) (x : Trm) : Prop := ∀ (c0 c1 c2 c3 : Value) (B base mb vb : Nat) (cv : Value) (X : Nat → Prop) (s : MSt) (nc nk : Int) (fr : Bool) (sc : Int → Bool) (W : World), TrmR W B x [c0, c1, c2, c3] → MkIn W B base mb vb cv X s → Trm.wf nc nk fr x sc = true → Room s r →
  Calls Tryz.prog 144 #[.pointer (some ⟨mb, 0, none⟩), .agg #[c0, c1, c2, c3]] W fun q w' => q = .returned (.int .i64 (Mk.had Mk.lkL x s).1) ∧ ∃ cv', MkGo B base mb vb cv cv' X (Mk.had Mk.lkL x s).2 W w'

set_option maxHeartbeats 4000000 in
set_option maxRecDepth 100000 in
theorem had_anyR (r : Nat) (x : Trm) (hx : IntoR r false x) : HadR (r + 1) x := by
  intro c0 c1 c2 c3 B base mb vb cv X s nc nk fr sc W hv hm hw hroom
  have hroom2 := Room.mono hroom (k' := 1) (by omega)
  obtain ⟨W1, hW1⟩ : ∃ W1, W.alloc (.cells #[c0, c1, c2, c3] 41) = W1 := ⟨_, rfl⟩
  have HB1 := Lib.hid (show Below W.heap.size W W1 from by rw [← hW1]; exact Below.one W _)
  have HBX := Lib.hid (show BoxL W1 W.heap.size 41 [c0, c1, c2, c3] from by rw [← hW1]; exact BoxL.new rfl _ _)
  have HM := Lib.hid (hm.keep HB1.out)
  have hsz := hm.size
  have HV := Lib.hid (TrmR.kept (HB1.out.mono hm.size) _ _ hv)
  have HW := Lib.hid hW1
  have HX := Lib.hid hx
  have HLT := Lib.hid hm.st.lt
  obtain ⟨op, n, v, t⟩ := x
  have hsh : ∃ q r u q' r' u', c0 = .int .i64 op ∧ c1 = .int .i64 n ∧ c2 = .slice q r u ∧ c3 = .slice q' r' u' ∧ I64 n := by
    obtain ⟨vs', ts', he, _, hn, hvs, hts⟩ := trmR_iff.1 hv
    simp only [List.cons.injEq, and_true] at he
    obtain ⟨rfl, rfl, rfl, rfl⟩ := he
    obtain ⟨q, r, u, rfl⟩ := hvs.form
    obtain ⟨q', r', u', rfl⟩ := hts.form
    exact ⟨_, _, _, _, _, _, rfl, rfl, rfl, rfl, hn⟩
  obtain ⟨ov, lv, cvv, ot, lt, ct, rfl, rfl, rfl, rfl, hn⟩ := hsh
  have x0 := HBX.out.cell 0 rfl
  have x1 := HBX.out.cell 1 rfl
  have x2 := HBX.out.cell 2 rfl
  have x3 := HBX.out.cell 3 rfl
  have xl := HBX.out.lt
  by_cases h1 : op = 1
  · subst h1
    have hpost : (Mk.had Mk.lkL (.mk 1 n v t) s) = (Mk.lkL s.vars n, s) := by simp [Mk.had, Mk.hadW, Trm.op, Trm.n]
    rw [hpost]
    clear hv hm hx hW1 hw hroom hpost
    go_enter Tryz.func144, Tryz.ntmps144
    go_upto_region 2 with fail
    rw [HW.out]
    have y2 := HM.out.st.box.cell 2 rfl
    have yl := HM.out.st.box.lt
    have HD := Lib.hid ((Below.refl W1.heap.size W1).drew)
    refine wp_region_quiet_all (Below W1.heap.size W1) (by kernel_rfl) (by kernel_rfl) HD.out ?_
    intro T0 _ WW HWW HWW2
    have z1 : ∀ t, (WW t).cell? _ = _ := fun t => ((HWW t).cell (p := ⟨W.heap.size, 1, none⟩) xl).trans x1
    have z2 : ∀ t, (WW t).cell? _ = _ := fun t => ((HWW t).cell (p := ⟨mb, 2, none⟩) yl).trans y2
    have zk : ∀ t, (Instr.lookup 108 (.map (some vb)) (.int .i64 n) false).run Tryz.prog (WW t) = .ok (.int .i64 (Mk.lkL s.vars n)) (WW t) := fun t => look_run (HM.out.st.vars.keep (HWW t)) n hn
    have HWH := Lib.hid HWW
    clear HWW HWW2
    repeat (go_big_quiet_step (fail))
    refine wpQuiet_nil ?_
    intro t'
    have HBB := Lib.hid (HWH.out t')
    clear x0 x1 x2 x3 xl z1 z2 zk y2 yl
    go_wp2_with fail
    go_ret
    exact ⟨rfl, cv, ((MkGo.refl HM.out).after HBB.out).before HB1.out hsz⟩
  · have f1 : (op == 1) = false := by simpa using h1
    have hpost : (Mk.had Mk.lkL (.mk op n v t) s) = (s.regs, Mk.into Mk.lkL (.mk op n v t) s.regs false s.fresh) := if_neg h1
    rw [hpost]
    have HF := Lib.hid (fresh_mk W1 HM.out hroom2)
    have hro := Lib.hid hroom
    have hwf := Lib.hid hw
    clear hv hm hx hW1 hw hroom hpost
    go_enter Tryz.func144, Tryz.ntmps144
    go_upto_region 3 with fail
    rw [HW.out]
    go_wp2_with fail
    refine HF.out.mono ?_
    rintro e w2 ⟨rfl, hg⟩
    have HG := Lib.hid hg
    have HBX2 := Lib.hid (HG.out.turned.box HBX.out (fun hs => Nat.lt_irrefl _ (HLT.out _ hs)))
    have HI := Lib.hid (HX.out _ _ _ _ B base mb vb cv X s.fresh s.regs nc nk fr sc w2 (TrmR.kept HG.out.low _ _ HV.out) HG.out.inn hwf.out (Room.fresh (hro.out.mono (by omega))) ⟨hro.out.2.1, by have := hro.out.2.2.1; omega⟩)
    clear x0 x1 x2 x3 xl hg
    have x0 := HBX2.out.cell 0 rfl
    have x1 := HBX2.out.cell 1 rfl
    have x2 := HBX2.out.cell 2 rfl
    have x3 := HBX2.out.cell 3 rfl
    have xl := HBX2.out.lt
    go_wp2_with fail
    refine HI.out.mono ?_
    rintro e w3 ⟨rfl, cv', hg⟩
    have HG3 := Lib.hid ((HG.out.next hg).before HB1.out hsz)
    clear hg x0 x1 x2 x3 xl
    go_wp2_with fail
    go_ret
    exact ⟨rfl, _, HG3.out⟩
set_option maxHeartbeats 8000000 in
set_option maxRecDepth 100000 in
theorem end_elseR (rm : Nat) (op n : Int) (v : List Int) (t : List Trm) (hx : HadR rm (.mk op n v t)) (h5 : op ≠ 5) (h22 : op ≠ 22) (h10 : op ≠ 10 ∨ n < 29) (c0 c1 c2 c3 : Value) (B base mb vb : Nat) (cv : Value) (X : Nat → Prop) (s : MSt) (nc nk : Int) (fr : Bool) (sc : Int → Bool) (W : World)
    (hv : TrmR W B (.mk op n v t) [c0, c1, c2, c3]) (hm : MkIn W B base mb vb cv X s) (hw : Trm.wf nc nk fr (.mk op n v t) sc = true) (hroom : Room s rm) (hrh : Room (Mk.had Mk.lkL (.mk op n v t) s).2 1 ∧ 0 ≤ (Mk.had Mk.lkL (.mk op n v t) s).1 ∧ (Mk.had Mk.lkL (.mk op n v t) s).1 ≤ 1900000) :
    Calls Tryz.prog 111 #[.pointer (some ⟨mb, 0, none⟩), .agg #[c0, c1, c2, c3]] W fun r w' => r = .returned (.tuple #[]) ∧ ∃ cv', MkGo B base mb vb cv cv' X ((Mk.had Mk.lkL (.mk op n v t) s).2.put ⟨22, 0, (Mk.had Mk.lkL (.mk op n v t) s).1, 0, []⟩) W w' := by
  obtain ⟨W1, hW1⟩ : ∃ W1, W.alloc (.cells #[c0, c1, c2, c3] 41) = W1 := ⟨_, rfl⟩
  have hsz := hm.size
  have hv1 : TrmR W1 B (.mk op n v t) [c0, c1, c2, c3] := TrmR.kept (by rw [← hW1]; exact (Below.one W _).mono hsz) _ _ hv
  obtain ⟨ov, lv, cvv, ot, lt, ct, rfl, rfl, rfl, rfl, hn, HBX, HM, HT, HV, HB1, hlt, hlv⟩ := term_box W B base mb vb cv X s _ n v t _ _ _ _ hv hm W1 hW1
  have HW := Lib.hid hW1
  have HX := Lib.hid (hx _ _ _ _ B base mb vb cv X s nc nk fr sc W1 hv1 HM.out hw hroom)
  obtain ⟨q, hq⟩ : ∃ q, Mk.had Mk.lkL (.mk op n v t) s = q := ⟨_, rfl⟩
  rw [hq] at hrh
  rw [hq] at HX ⊢
  have HRH := Lib.hid hrh
  have f5 : (op == 5) = false := by simpa using h5
  have f22 : (op == 22) = false := by simpa using h22
  have e0 := HBX.out.cell 0 rfl
  have e1 := HBX.out.cell 1 rfl
  have e2 := HBX.out.cell 2 rfl
  have e3 := HBX.out.cell 3 rfl
  have el := HBX.out.lt
  clear hv hv1 hm hW1 hw hroom hlt hlv hn hx hq hrh
  by_cases ho : op = 10
  · subst ho
    have hn29 : decide (29 ≤ n) = false := decide_eq_false (by rcases h10 with h | h <;> omega)
    clear h10 f5 f22 h5 h22
    go_enter Tryz.func111, Tryz.ntmps111
    go_upto_region 2 with fail
    rw [HW.out]
    go_wp2_with fail
    with_reducible refine HX.out.mono ?_
    rintro r w2 ⟨rfl, cv2, hg2⟩
    have HG2 := Lib.hid hg2
    have HL := Lib.hid (lay_void 22 0 q.1 0 [] none 0 0 w2 hg2.inn (by have := HRH.out.1.1; omega) (by constructor <;> omega) (by constructor <;> omega) ⟨by have := HRH.out.2.1; omega, by have := HRH.out.2.2; omega⟩ (by constructor <;> omega) (IntsM.nil _ _))
    clear hg2 HX e0 e1 e2 e3 el
    go_wp2_with fail
    with_reducible refine HL.out.mono ?_
    rintro r w3 ⟨fv, rfl, cv3, hg3⟩
    have HG9 := Lib.hid ((HG2.out.next hg3).before HB1.out hsz)
    clear hg3 HL
    go_wp2_with fail
    first | go_end0 | (refine bodyPost_ret (results_none rfl _ _ _) rfl ?_)
    exact ⟨rfl, _, HG9.out⟩
  · have f10 : (op == 10) = false := by simpa using ho
    clear h10 h5 h22 ho
    go_enter Tryz.func111, Tryz.ntmps111
    go_upto_region 2 with fail
    rw [HW.out]
    go_wp2_with fail
    with_reducible refine HX.out.mono ?_
    rintro r w2 ⟨rfl, cv2, hg2⟩
    have HG2 := Lib.hid hg2
    have HL := Lib.hid (lay_void 22 0 q.1 0 [] none 0 0 w2 hg2.inn (by have := HRH.out.1.1; omega) (by constructor <;> omega) (by constructor <;> omega) ⟨by have := HRH.out.2.1; omega, by have := HRH.out.2.2; omega⟩ (by constructor <;> omega) (IntsM.nil _ _))
    clear hg2 HX e0 e1 e2 e3 el
    go_wp2_with fail
    with_reducible refine HL.out.mono ?_
    rintro r w3 ⟨fv, rfl, cv3, hg3⟩
    have HG9 := Lib.hid ((HG2.out.next hg3).before HB1.out hsz)
    clear hg3 HL
    go_wp2_with fail
    first | go_end0 | (refine bodyPost_ret (results_none rfl _ _ _) rfl ?_)
    exact ⟨rfl, _, HG9.out⟩

/-! ### plain -/
theorem snoc_of {α : Type} : ∀ {t : List α} {n : Nat}, t.length = n + 1 → ∃ l x, t = l ++ [x] ∧ l.length = n
  | t, n, h => by
    have hne : t ≠ [] := fun e => by rw [e] at h; simp at h
    refine ⟨t.dropLast, t.getLast hne, (List.dropLast_concat_getLast hne).symm, by rw [List.length_dropLast]; omega⟩
theorem into_3 (lk : List (Int × Int) → Int → Int) (n : Int) (v : List Int) (t : List Trm) (d : Int) (e : Bool) (s : MSt) : Mk.into lk (.mk 3 n v t) d e s = Mk.choice lk t d e s := by rw [Mk.into]; simp
theorem into_6 (lk : List (Int × Int) → Int → Int) (n : Int) (v : List Int) (l : List Trm) (x : Trm) (d : Int) (e : Bool) (s : MSt) : Mk.into lk (.mk 6 n v (l ++ [x])) d e s = Mk.into lk x d e (Mk.allT lk l s).2 := by
  rw [Mk.into, if_neg (by decide), if_pos rfl, Mk.seqs_eq]
theorem into_8 (lk : List (Int × Int) → Int → Int) (n : Int) (v : List Int) (l : List Trm) (x : Trm) (d : Int) (e : Bool) (s : MSt) : Mk.into lk (.mk 8 n v (l ++ [x])) d e s = Mk.into lk x d e ((Mk.allT lk l s).2.bind v (Mk.allT lk l s).1) := by
  rw [Mk.into, if_neg (by decide), if_neg (by decide), if_pos rfl, Mk.lets_eq, List.nil_append]
theorem into_9 (lk : List (Int × Int) → Int → Int) (n : Int) (v : List Int) (l : List Trm) (x : Trm) (d : Int) (e : Bool) (s : MSt) (h : l.length = v.length) : Mk.into lk (.mk 9 n v (l ++ [x])) d e s = Mk.into lk x d e (Mk.fill lk v (l ++ [x]) (Mk.fix1 v (l ++ [x]) s)) := by
  rw [Mk.into, if_neg (by decide), if_neg (by decide), if_neg (by decide), if_pos rfl, Mk.fixs_eq _ _ _ _ _ _ _ h]
  congr 1
  rw [← Mk.fill_take lk v (l ++ [x]), ← h, List.take_left]
theorem into_f (lk : List (Int × Int) → Int → Int) (op n : Int) (v : List Int) (t : List Trm) (d : Int) (s : MSt) (h3 : op ≠ 3) (h6 : op ≠ 6) (h8 : op ≠ 8) (h9 : op ≠ 9) (h1 : op ≠ 1) : Mk.into lk (.mk op n v t) d false s = Mk.strict op n d (Mk.allT lk t s).1 (Mk.allT lk t s).2 := by
  rw [Mk.into, if_neg h3, if_neg h6, if_neg h8, if_neg h9, if_neg (by decide), if_neg h1]
theorem into_f1 (lk : List (Int × Int) → Int → Int) (n : Int) (v : List Int) (t : List Trm) (d : Int) (s : MSt) : Mk.into lk (.mk 1 n v t) d false s = s.put ⟨1, d, lk s.vars n, 0, []⟩ := by
  rw [Mk.into, if_neg (by decide), if_neg (by decide), if_neg (by decide), if_neg (by decide), if_neg (by decide), if_pos rfl]
theorem into_t (lk : List (Int × Int) → Int → Int) (op n : Int) (v : List Int) (t : List Trm) (d : Int) (s : MSt) (h3 : op ≠ 3) (h6 : op ≠ 6) (h8 : op ≠ 8) (h9 : op ≠ 9) (he : Mk.endsB op n = true) : Mk.into lk (.mk op n v t) d true s = Mk.ended op n (Mk.allT lk t s).1 (Mk.allT lk t s).2 := by
  rw [Mk.into, if_neg h3, if_neg h6, if_neg h8, if_neg h9, if_pos rfl, if_pos he]
theorem into_th (lk : List (Int × Int) → Int → Int) (op n : Int) (v : List Int) (t : List Trm) (d : Int) (s : MSt) (h3 : op ≠ 3) (h6 : op ≠ 6) (h8 : op ≠ 8) (h9 : op ≠ 9) (he : Mk.endsB op n = false) : Mk.into lk (.mk op n v t) d true s = (Mk.had lk (.mk op n v t) s).2.put ⟨22, 0, (Mk.had lk (.mk op n v t) s).1, 0, []⟩ := by
  rw [Mk.into, if_neg h3, if_neg h6, if_neg h8, if_neg h9, if_pos rfl, if_neg (by rw [he]; decide)]
  by_cases h1 : op = 1
  · subst h1
    rw [if_pos rfl]
    simp [Mk.had, Mk.hadW, Trm.op, Trm.n]
  · rw [if_neg h1, show Mk.had lk (.mk op n v t) s = (s.regs, Mk.into lk (.mk op n v t) s.regs false s.fresh) from if_neg h1, into_f lk op n v t s.regs s.fresh h3 h6 h8 h9 h1]

theorem into_any : ∀ (k : Nat) (x : Trm), x.all ≤ k → ∀ e, IntoC e x
  | 0, x, h => by have := x.all_pos; omega
  | k + 1, .mk op n v t, hk => by
    have hlt : ∀ x ∈ t, x.all ≤ k := fun x hx => by have := Trm.all_mem (o := op) (n := n) (v := v) hx; omega
    have ih : ∀ x ∈ t, ∀ e, IntoC e x := fun x hx e => into_any k x (hlt x hx) e
    have hA : ∀ l : List Trm, (∀ y ∈ l, y.all ≤ k) → AllC l := fun l hl => all_any l fun y hy => had_any y (into_any k y (hl y hy) false)
    have hsub : ∀ x ∈ t, AllC x.t := fun x hx => hA x.t fun y hy => by
      obtain ⟨o, m, u, l⟩ := x
      have h1 := Trm.all_mem (o := o) (n := m) (v := u) (show y ∈ l from hy)
      have h2 := hlt _ hx
      omega
    have hall : (Trm.mk op n v t).all = 1 + Trm.allL t := by rw [Trm.all]
    -- the four that go on in parts
    have four : op = 3 ∨ op = 6 ∨ op = 8 ∨ op = 9 → ∀ e, IntoC e (.mk op n v t) := by
      intro ho e c0 c1 c2 c3 B base mb vb cv X s d nc nk fr sc W hv hm hw hroom hd
      have hp := wf_parts hw
      rw [hall] at hroom
      rcases ho with rfl | rfl | rfl | rfl
      · have hc : v.length = 0 ∧ t.length = 3 := by
          have := hp.2.1
          simpa [Trm.countsB] using this
        obtain rfl : v = [] := List.eq_nil_of_length_eq_zero hc.1
        have hwa := wfL_all (by decide) hp.2.2.2
        match t, hc.2 with
        | [a, b, c], _ =>
          rw [into_3]
          exact into_choice e n [] a b c (had_any a (ih a (by simp) false)) (ih b (by simp) e) (ih c (by simp) e) c0 c1 c2 c3 B base mb vb cv X s d nc nk fr sc W hv hm (hwa a (by simp)) (hwa b (by simp)) (hwa c (by simp)) (hroom.mono (by omega)) hd
      · have hc : v.length = 0 ∧ 1 ≤ t.length := by
          have := hp.2.1
          simpa [Trm.countsB] using this
        obtain rfl : v = [] := List.eq_nil_of_length_eq_zero hc.1
        have hwa := wfL_all (by decide) hp.2.2.2
        obtain ⟨l, x, rfl, _⟩ := snoc_of (t := t) (n := t.length - 1) (by omega)
        rw [into_6]
        exact into_seq e n [] l x (hA l fun y hy => hlt y (by simp [hy])) (ih x (by simp) e) c0 c1 c2 c3 B base mb vb cv X s d nc nk fr sc sc W hv hm (fun y hy => hwa y (by simp [hy])) (hwa x (by simp)) (hroom.mono (by omega)) hd
      · have hc : t.length = v.length + 1 := by
          have := hp.2.1
          simpa [Trm.countsB] using this
        obtain ⟨l, x, rfl, hl⟩ := snoc_of hc
        have hw2 := hp.2.2.2
        rw [wfL_split (by decide)] at hw2
        simp only [List.length_append, List.length_singleton, Nat.add_sub_cancel, List.take_left, List.drop_left, Bool.and_eq_true, List.all_eq_true] at hw2
        rw [into_8]
        exact into_let e n v l x hl (hA l fun y hy => hlt y (by simp [hy])) (ih x (by simp) e) c0 c1 c2 c3 B base mb vb cv X s d nc nk fr sc _ W hv hm hw2.1 (hw2.2 x (by simp)) (hroom.mono (by omega)) hd
      · have hc : t.length = v.length + 1 := by
          have := hp.2.1
          simpa [Trm.countsB] using this
        obtain ⟨l, x, rfl, hl⟩ := snoc_of hc
        have hw2 := hp.2.2.2
        rw [wfL_fix] at hw2
        simp only [List.length_append, List.length_singleton, Nat.add_sub_cancel, List.take_left, Bool.and_eq_true, List.all_eq_true] at hw2
        rw [into_9 _ _ _ _ _ _ _ _ hl]
        refine into_fix e n v l x hl hsub (ih x (by simp) e) c0 c1 c2 c3 B base mb vb cv X s d nc nk fr (Trm.addV sc v) (Trm.addV sc v) W hv hm (fun j y hj hy => ?_) (hw2.1 x (by simp)) (hroom.mono (by omega)) hd
        rw [List.getElem?_append_left (by omega)] at hy
        have hm := List.mem_of_getElem? hy
        have h19 := hw2.2 y hm
        have hwy := hw2.1 y (by simp [hm])
        obtain ⟨o, m, u, ty⟩ := y
        obtain rfl : o = 19 := by simpa [Trm.op] using h19
        have hpy := wf_parts hwy
        obtain rfl : u = [] := List.eq_nil_of_length_eq_zero (counts_novars (by decide) (by decide) hpy.2.1)
        exact wfL_all (by decide) hpy.2.2.2
    by_cases h3 : op = 3
    · exact four (.inl h3)
    by_cases h6 : op = 6
    · exact four (.inr (.inl h6))
    by_cases h8 : op = 8
    · exact four (.inr (.inr (.inl h8)))
    by_cases h9 : op = 9
    · exact four (.inr (.inr (.inr h9)))
    have hfr : IntoR (2 + 6 * Trm.allL t) false (.mk op n v t) := by
      intro c0 c1 c2 c3 B base mb vb cv X s d nc nk fr sc W hv hm hw hroom hd
      have hp := wf_parts hw
      obtain rfl : v = [] := List.eq_nil_of_length_eq_zero (counts_novars h8 h9 hp.2.1)
      have hwa := wfL_all h9 hp.2.2.2
      have hro := hroom
      have hT := hA t hlt
      by_cases h1 : op = 1
      · subst h1
        rw [into_f1]
        exact into_value 1 n [] t h3 h6 h8 h9 c0 c1 c2 c3 B base mb vb cv X s _ d W hv hm fun W1 hv1 hm1 => value_1 n [] t c0 c1 c2 c3 B base mb vb cv X s d W1 hv1 hm1 (hro.mono (by omega)) hd
      · rw [into_f _ _ _ _ _ _ _ h3 h6 h8 h9 h1]
        refine into_value op n [] t h3 h6 h8 h9 c0 c1 c2 c3 B base mb vb cv X s _ d W hv hm fun W1 hv1 hm1 => ?_
        have hpl := plain_of hp.1 h1 h3 h6 h8 h9
        have hcn := hp.2.1
        simp only [plainB, List.contains_eq_mem, List.mem_cons, List.not_mem_nil, or_false, decide_eq_true_eq] at hpl
        rcases hpl with rfl | rfl | rfl | rfl | rfl | rfl | rfl | rfl | rfl | rfl | rfl | rfl | rfl | rfl
        · exact value_0 n [] t hT c0 c1 c2 c3 B base mb vb cv X s d nc nk fr sc W1 hv1 hm1 hwa hro hd
        · exact value_5 n [] t hT (by simpa [Trm.countsB] using hcn) c0 c1 c2 c3 B base mb vb cv X s d nc nk fr sc W1 hv1 hm1 hwa hro hd
        · exact value_10 n [] t hT c0 c1 c2 c3 B base mb vb cv X s d nc nk fr sc W1 hv1 hm1 hwa hro hd
        · exact value_11 n [] t hT c0 c1 c2 c3 B base mb vb cv X s d nc nk fr sc W1 hv1 hm1 hwa hro hd
        · exact value_12 n [] t hT (Nat.le_of_eq (show t.length = 1 from by simpa [Trm.countsB] using hcn).symm) c0 c1 c2 c3 B base mb vb cv X s d nc nk fr sc W1 hv1 hm1 hwa hro hd
        · exact value_13 n [] t hT c0 c1 c2 c3 B base mb vb cv X s d nc nk fr sc W1 hv1 hm1 hwa hro hd
        · exact value_15 n [] t hT (Nat.le_of_eq (show t.length = 1 from by simpa [Trm.countsB] using hcn).symm) c0 c1 c2 c3 B base mb vb cv X s d nc nk fr sc W1 hv1 hm1 hwa hro hd
        · exact value_16 n [] t hT (Nat.le_of_eq (show t.length = 1 from by simpa [Trm.countsB] using hcn).symm) c0 c1 c2 c3 B base mb vb cv X s d nc nk fr sc W1 hv1 hm1 hwa hro hd
        · exact value_17 n [] t hT (Nat.le_of_eq (show t.length = 2 from by simpa [Trm.countsB] using hcn).symm) c0 c1 c2 c3 B base mb vb cv X s d nc nk fr sc W1 hv1 hm1 hwa hro hd
        · exact value_18 n [] t hT (Nat.le_of_eq (show t.length = 2 from by simpa [Trm.countsB] using hcn).symm) c0 c1 c2 c3 B base mb vb cv X s d nc nk fr sc W1 hv1 hm1 hwa hro hd
        · exact value_19 n [] t hT c0 c1 c2 c3 B base mb vb cv X s d nc nk fr sc W1 hv1 hm1 hwa hro hd
        · exact value_20 n [] t hT c0 c1 c2 c3 B base mb vb cv X s d nc nk fr sc W1 hv1 hm1 hwa hro hd
        · exact value_21 n [] t hT c0 c1 c2 c3 B base mb vb cv X s d nc nk fr sc W1 hv1 hm1 hwa hro hd
        · exact value_22 n [] t hT (by simpa [Trm.countsB] using hcn) c0 c1 c2 c3 B base mb vb cv X s d nc nk fr sc W1 hv1 hm1 hwa hro hd
    intro e
    cases e with
    | false =>
      intro c0 c1 c2 c3 B base mb vb cv X s d nc nk fr sc W hv hm hw hroom hd
      exact hfr c0 c1 c2 c3 B base mb vb cv X s d nc nk fr sc W hv hm hw (hroom.mono (by rw [hall]; omega)) hd
    | true =>
      intro c0 c1 c2 c3 B base mb vb cv X s d nc nk fr sc W hv hm hw hroom hd
      have hp := wf_parts hw
      obtain rfl : v = [] := List.eq_nil_of_length_eq_zero (counts_novars h8 h9 hp.2.1)
      have hwa := wfL_all h9 hp.2.2.2
      have hcn := hp.2.1
      have hro : Room s (2 + 6 * Trm.allL t) := hroom.mono (by rw [hall]; omega)
      have hT := hA t hlt
      cases he : Mk.endsB op n with
      | true =>
        rw [into_t _ _ _ _ _ _ _ h3 h6 h8 h9 he]
        refine into_end op n [] t h3 h6 h8 h9 c0 c1 c2 c3 B base mb vb cv X s _ d W hv hm fun W1 hv1 hm1 => ?_
        simp only [Mk.endsB, Bool.or_eq_true, Bool.and_eq_true, decide_eq_true_eq] at he
        rcases he with rfl | rfl | ⟨rfl, hn⟩
        · exact end_5 n [] t hT (by simpa [Trm.countsB] using hcn) c0 c1 c2 c3 B base mb vb cv X s nc nk fr sc W1 hv1 hm1 hwa hro
        · exact end_22 n [] t hT (by simpa [Trm.countsB] using hcn) c0 c1 c2 c3 B base mb vb cv X s nc nk fr sc W1 hv1 hm1 hwa hro
        · exact end_10 n [] t hT hn c0 c1 c2 c3 B base mb vb cv X s nc nk fr sc W1 hv1 hm1 hwa hro
      | false =>
        rw [into_th _ _ _ _ _ _ _ h3 h6 h8 h9 he]
        refine into_end op n [] t h3 h6 h8 h9 c0 c1 c2 c3 B base mb vb cv X s _ d W hv hm fun W1 hv1 hm1 => ?_
        simp only [Mk.endsB, Bool.or_eq_false_iff, Bool.and_eq_false_iff, decide_eq_false_iff_not] at he
        have hrm : Room s (4 + 6 * Trm.allL t) := hroom.mono (by rw [hall]; omega)
        refine end_elseR (2 + 6 * Trm.allL t + 1) op n [] t (had_anyR _ _ hfr) he.1 he.2.1 (he.2.2.imp id (fun h => Int.not_le.1 h)) c0 c1 c2 c3 B base mb vb cv X s nc nk fr sc W1 hv1 hm1 hw (hrm.mono (by omega)) ?_
        by_cases h1 : op = 1
        · subst h1
          rw [show Mk.had Mk.lkL (.mk 1 n [] t) s = (Mk.lkL s.vars n, s) by simp [Mk.had, Mk.hadW, Trm.op, Trm.n]]
          exact ⟨hrm.mono (by omega), hrm.lk Mk.lkL_ok n⟩
        · rw [show Mk.had Mk.lkL (.mk op n [] t) s = (s.regs, Mk.into Mk.lkL (.mk op n [] t) s.regs false s.fresh) from if_neg h1, into_f Mk.lkL op n [] t s.regs s.fresh h3 h6 h8 h9 h1]
          exact ⟨Room.strict (k := 1) (Room.allT (k := 3) Mk.lkL_ok t s.fresh (Room.fresh (hrm.mono (by omega)))).1 _ _ _ _, hrm.2.1, by have := hrm.2.2.1; omega⟩
end Go.Proofs.YtigkhmppnnljiaaGreatDoor

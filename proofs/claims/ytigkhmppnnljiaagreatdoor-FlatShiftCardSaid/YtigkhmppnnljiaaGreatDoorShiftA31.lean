/-
  What the proofs lean on: MkF, ChkM.
-/
import Derived.Test.YtigkhmppnnljiaaGreatDoorShiftA27
import Derived.Test.YtigkhmppnnljiaaGreatDoorShiftA29
namespace Go.Proofs.YtigkhmppnnljiaaGreatDoor
open Go Go.RowKit Mk

set_option maxHeartbeats 8000000 in
set_option maxRecDepth 100000 in
theorem fix_any (op n : Int) (v : List Int) (t : List Trm) (hlen : t.length = v.length + 1) (ha : ∀ x ∈ t, AllC x.t) (c0 c1 c2 c3 : Value) (B base mb vb : Nat) (cv : Value) (X : Nat → Prop) (s : MSt) (nc nk : Int) (fr : Bool) (sc : Int → Bool) (W : World)
    (hv : TrmR W B (.mk op n v t) [c0, c1, c2, c3]) (hm : MkIn W B base mb vb cv X s) (hw : ∀ (j : Nat) x, j < v.length → t[j]? = some x → ∀ y ∈ x.t, Trm.wf nc nk fr y sc = true) (hroom : Room s (6 * Trm.allL t + 4)) :
    Calls Tryz.prog 110 #[.pointer (some ⟨mb, 0, none⟩), .agg #[c0, c1, c2, c3]] W fun r w' => r = .returned (.tuple #[]) ∧ ∃ cv', MkGo B base mb vb cv cv' X (Mk.fill Mk.lkL v t (Mk.fix1 v t s)) W w' := by
  obtain ⟨W1, hW1⟩ : ∃ W1, W.alloc (.cells #[c0, c1, c2, c3] 41) = W1 := ⟨_, rfl⟩
  have HB1 := Lib.hid (show Below W.heap.size W W1 from by rw [← hW1]; exact Below.one W _)
  have HBX := Lib.hid (show BoxL W1 W.heap.size 41 [c0, c1, c2, c3] from by rw [← hW1]; exact BoxL.new rfl _ _)
  have HM := Lib.hid (hm.keep HB1.out)
  have hsz := hm.size
  have HW := Lib.hid hW1
  obtain ⟨vs, ts, he, _, _, hvs, hts⟩ := trmR_iff.1 hv
  simp only [List.cons.injEq, and_true] at he
  obtain ⟨rfl, rfl, rfl, rfl⟩ := he
  obtain ⟨ov, lv, cvv, rfl⟩ := hvs.form
  obtain ⟨ot, lt, ct, rfl⟩ := hts.form
  have HT := Lib.hid (show TrmS W1 B t (.slice ot lt ct) from TrmS.kept hts (HB1.out.mono hsz))
  have HV := Lib.hid (show SlC W1 B 1 IntR v (.slice ov lv cvv) from hvs.kept (HB1.out.mono hsz) fun _ _ _ h => h)
  obtain ⟨hlt, hltc, hltm⟩ := SlC.lens HT.out
  obtain ⟨hlv, hlvc, hlvm⟩ := HV.out.lens
  have HLT := Lib.hid hlt
  have HLV := Lib.hid hlv
  have HLE := Lib.hid hlen
  have HA := Lib.hid ha
  have HWF := Lib.hid hw
  have HRO := Lib.hid hroom
  have hshort := Trm.allL_length t
  have e2 := HBX.out.cell 2 rfl
  have el := HBX.out.lt
  clear hv hm hW1 hts hvs ha hw hroom hlt hlv hlen
  go_enter Tryz.func110, Tryz.ntmps110
  go_upto_region 1 with fail
  rw [HW.out]
  go_wp2_with fail
  go_loopg [12] lv (fun g i wr => ∃ (j : Nat) (cv' : Value), g = lv - j ∧ i = .int .i64 j ∧ j ≤ lv ∧ Hid (MkGo B base mb vb cv cv' X (Mk.fix1 (v.take j) t s) W1 wr))
  case atStart => exact ⟨0, cv, rfl, rfl, by omega, Lib.hid (by rw [List.take_zero, show Mk.fix1 [] t s = s by rw [Mk.fix1]; simp]; exact MkGo.refl HM.out)⟩
  case round =>
    obtain ⟨j, cv1, rfl, rfl, hj, HG⟩ := hrel
    clear e2 el
    by_cases hjl : j < lv
    · obtain ⟨x, hx⟩ : ∃ x, v[j]? = some x := ⟨_, List.getElem?_eq_getElem (by rw [← HLV.out]; exact hjl)⟩
      obtain ⟨y, hy⟩ : ∃ y, t[j]? = some y := ⟨_, List.getElem?_eq_getElem (by have := HLE.out; have := HLV.out; omega)⟩
      obtain ⟨yb, yoff, y0, y1, y2, y3, hyo, hpy⟩ := TrmS.part (TrmS.kept HT.out HG.out.low) hy
      obtain ⟨xb, xoff, hxo, hxb, hxc, hxi⟩ := SlC.int (HV.out.kept HG.out.low fun _ _ _ h => h) hx
      subst hyo hxo
      have hjt : j < lt := by have := HLE.out; have := HLT.out; have := HLV.out; omega
      have HXI := Lib.hid hxi
      have HPY := Lib.hid hpy
      have HSN := Lib.hid (Mk.fix1_snoc v t j x y s hx hy)
      have hxl := cell_lt hxc
      have hrm := Mk.Room.fix1 (k := 3) (v.take j) t (HRO.out.mono (by have := HLE.out; have := HLV.out; omega))
      obtain ⟨s1, hs1⟩ : ∃ s1, Mk.fix1 (v.take j) t s = s1 := ⟨_, rfl⟩
      rw [hs1] at HG HSN hrm
      have HRM := Lib.hid hrm
      clear hx hy hpy hs1 hrm hxi
      obtain ⟨qa, qb, qc, qd, qe, qf, rfl, rfl, rfl, rfl, hyn⟩ := TrmR.shape HPY.out.r
      have HYN := Lib.hid hyn
      have HDR := Lib.hid (Below.drew (Below.refl wr.heap.size wr))
      have hregs : I64 s1.regs := ⟨by have := HRM.out.2.1; omega, by have := HRM.out.2.2.1; omega⟩
      have HRG := Lib.hid hregs
      have HF := Lib.hid (fresh_mk wr.drew (HG.out.inn.keep HDR.out) (HRM.out.mono (by omega)))
      have m2 := HG.out.inn.st.box.cell 2 rfl
      have ml := HG.out.inn.st.box.lt
      have hvl : s1.fresh.vars.length < 1000000000000 := by have := HRM.out.2.2.2.2; simp only [MSt.fresh]; omega
      clear hyn hregs
      go_upto_region 4 with fail
      go_region_with (go_at_call 146; with_reducible refine HF.out.mono ?_; rintro e w1 ⟨rfl, hg1⟩; have HG1 := Lib.hid hg1; have n2 := hg1.inn.st.box.cell 2 rfl; have nl := hg1.inn.st.box.lt; obtain ⟨w5, hup, hm5, hg5⟩ := put_run hg1.inn.st.vars hvl x s1.regs HXI.out HRG.out; have HM5 := Lib.hid hm5; have HG5 := Lib.hid hg5; clear hg1 hm5 hg5)
      all_goals
        have HGB := Lib.hid (((HG.out.after HDR.out).next HG1.out).next (HG1.out.inn.bound x s1.regs HM5.out HG5.out))
        have HRM2 := Lib.hid (Room.bind (k := 1) [x] [s1.regs] (Room.fresh (k := 2) HRM.out) (fun y hy => by rw [List.mem_singleton.1 hy]; exact ⟨HRM.out.2.1, by have := HRM.out.2.2.1; omega⟩))
        obtain ⟨s2, hs2⟩ : ∃ s2, s1.fresh.bind [x] [s1.regs] = s2 := ⟨_, rfl⟩
        have HLK := Lib.hid (show Mk.lkL s2.vars x = s1.regs from by rw [← hs2]; exact (Mk.lkL_snoc _ _ _ _).trans (if_pos rfl))
        rw [hs2] at HGB HSN HRM2
        clear hup n2 nl m2 ml hs2
        clear hvl
        have HPY5 := Lib.hid (HPY.out.kept (show Below B wr w5 from (HDR.out.mono HG.out.inn.size).trans (HG1.out.low.trans (HG1.out.inn.bound x s1.regs HM5.out HG5.out).low)))
        have HBX5 := Lib.hid (HGB.out.box HM.out HBX.out (by decide) (by decide))
        have y1 := HPY5.out.e1
        have yl := HPY5.out.size
        have e3 := HBX5.out.cell 3 rfl
        have el := HBX5.out.lt
        have m2 := HGB.out.inn.st.box.cell 2 rfl
        have ml := HGB.out.inn.st.box.lt
        clear HG1 HM5 HG5 HPY HDR HF hxl hxc
        go_upto_region 5 with fail
        have HD := Lib.hid ((Below.refl w5.heap.size w5).drew)
        have HDL := Lib.hid (fun (W3 : World) (hb : Below w5.heap.size w5 W3) => lay_void 7 s1.regs y.n 0 [] none 0 0 W3 (HGB.out.inn.keep hb) (by have := HRM2.out.1; omega) (by constructor <;> omega) HRG.out HYN.out (by constructor <;> omega) (IntsM.nil _ _))
        refine wp_region_quiet_class (Below w5.heap.size w5) 14 (by kernel_rfl) (by kernel_rfl) HD.out ?_
        intro T0 _ WW HWW HWW2
        have z0 : ∀ t, (WW t).cell? _ = _ := fun t => ((HWW t).cell (p := ⟨yb, yoff + j * 4 + 1, none⟩) yl).trans y1
        have z1 : ∀ t, (WW t).cell? _ = _ := fun t => ((HWW t).cell (p := ⟨W.heap.size, 3, none⟩) el).trans e3
        have z2 : ∀ t, (WW t).cell? _ = _ := fun t => ((HWW t).cell (p := ⟨mb, 2, none⟩) ml).trans m2
        have zk : ∀ t, (Instr.lookup 108 (.map (some vb)) (.int .i64 x) false).run Tryz.prog (WW t) = .ok (.int .i64 s1.regs) (WW t) := fun t => by rw [← HLK.out]; exact look_run (HGB.out.inn.st.vars.keep (HWW t)) x HXI.out
        have HWH := Lib.hid HWW
        clear HWW HWW2
        simp only [List.take_succ_cons, List.take_zero, List.drop_succ_cons, List.drop_zero]
        repeat (go_big_quiet_step (fail))
        refine wpQuiet_nil ?_
        intro t'
        obtain ⟨W3, hW3⟩ : ∃ W3, WW t' = W3 := ⟨_, rfl⟩
        have HB3 := Lib.hid (show Below w5.heap.size w5 W3 from hW3 ▸ HWH.out t')
        rw [hW3]
        clear z0 z1 z2 zk hW3 HWH y1 yl e3 el m2 ml
        have HL := Lib.hid (HDL.out W3 HB3.out)
        go_wp2_with fail
        with_reducible refine HL.out.mono ?_
        rintro r w6 ⟨fv, rfl, cv6, hg6⟩
        have HG6 := Lib.hid (show MkGo B base mb vb cv cv6 X (Mk.fix1 (v.take (j + 1)) t s) W1 w6 from by rw [HSN.out]; exact (HGB.out.after HB3.out).next hg6)
        clear hg6 HL
        go_wp2_with fail
        go_roundg (lv - (j + 1))
        case measure => omega
        case rel => exact ⟨j + 1, cv6, rfl, by go_num, by omega, HG6⟩
    · obtain rfl : j = lv := by omega
      have HE := Lib.hid (show v.take j = v from List.take_of_length_le (by rw [← HLV.out]; exact Nat.le_refl _))
      have hg := HG.out
      rw [HE.out] at hg
      have HG0 := Lib.hid hg
      have HBX2 := Lib.hid (hg.box HM.out HBX.out (by decide) (by decide))
      obtain ⟨s0, hs0⟩ : ∃ s0, Mk.fix1 v t s = s0 := ⟨_, rfl⟩
      have HS0 := Lib.hid hs0
      rw [hs0] at HG0
      have HRO2 := Lib.hid (show Room s0 (6 * Trm.allL t + 4 - 3 * t.length) from by rw [← hs0]; exact Room.fix1 v t (HRO.out.mono (by have := hshort; omega)))
      have e2 := HBX2.out.cell 2 rfl
      have el := HBX2.out.lt
      clear hg HG HE hs0
      go_wp2_with fail
      go_loopg [43] j (fun g i wr => ∃ (k : Nat) (cv' : Value), g = j - k ∧ i = .int .i64 k ∧ k ≤ j ∧ Hid (MkGo B base mb vb cv cv' X (Mk.fill Mk.lkL (v.take k) t s0) W1 wr))
      case atStart => exact ⟨0, cv1, rfl, rfl, by omega, Lib.hid (by rw [List.take_zero, show Mk.fill Mk.lkL [] t s0 = s0 by rw [Mk.fill]; simp]; exact HG0.out)⟩
      case round =>
        obtain ⟨k, cv2, rfl, rfl, hk, HG⟩ := hrel
        clear e2 el HBX2
        have HBX3 := Lib.hid (HG.out.box HM.out HBX.out (by decide) (by decide))
        by_cases hkl : k < j
        · obtain ⟨x, hx⟩ : ∃ x, v[k]? = some x := ⟨_, List.getElem?_eq_getElem (by rw [← HLV.out]; exact hkl)⟩
          obtain ⟨y, hy⟩ : ∃ y, t[k]? = some y := ⟨_, List.getElem?_eq_getElem (by have := HLE.out; have := HLV.out; omega)⟩
          obtain ⟨yb, yoff, y0, y1, y2, y3, hyo, hpy⟩ := TrmS.part (TrmS.kept HT.out HG.out.low) hy
          obtain ⟨xb, xoff, hxo, hxb, hxc, hxi⟩ := SlC.int (HV.out.kept HG.out.low fun _ _ _ h => h) hx
          subst hyo hxo
          have hjt : k < lt := by have := HLE.out; have := HLT.out; have := HLV.out; omega
          have HXI := Lib.hid hxi
          have HPY := Lib.hid hpy
          have HSN := Lib.hid (Mk.fill_snoc Mk.lkL v t k x y s0 hx hy)
          have hxl := cell_lt hxc
          have hrm : Room (Mk.fill Mk.lkL (v.take k) t s0) (6 * Trm.allL y.t + 1) := by
            have e1 : Mk.fill Mk.lkL (v.take k) t s0 = Mk.fill Mk.lkL (v.take k) (t.take k) s0 := by
              rw [← Mk.fill_take Mk.lkL (v.take k) t s0, List.length_take, Nat.min_eq_left (by have := HLV.out; omega)]
            rw [e1]
            refine Mk.Room.fill Mk.lkL_ok (v.take k) (t.take k) (HRO2.out.mono ?_)
            have h1 := allL_snoc hy
            have h2 : Trm.allL (t.take (k + 1)) + Trm.allL (t.drop (k + 1)) = Trm.allL t := by rw [← allL_append, List.take_append_drop]
            have h3 := Trm.allL_length (t.drop (k + 1))
            have h4 : (t.take k).length = k := by rw [List.length_take]; have := HLT.out; omega
            have h5 : y.all = 1 + Trm.allL y.t := by obtain ⟨o, n, v, t⟩ := y; rfl
            rw [List.length_drop] at h3
            have h6 := HLE.out
            have h7 := HLV.out
            have h8 := Trm.allL_length (t.take k)
            rw [h4] at h8 ⊢
            omega
          obtain ⟨s1, hs1⟩ : ∃ s1, Mk.fill Mk.lkL (v.take k) t s0 = s1 := ⟨_, rfl⟩
          rw [hs1] at HG HSN hrm
          have HRM := Lib.hid hrm
          obtain ⟨qa, qb, qc, qd, qe, qf, rfl, rfl, rfl, rfl, hyn⟩ := TrmR.shape HPY.out.r
          have HAL := Lib.hid (show Calls Tryz.prog 109 #[.pointer (some ⟨mb, 0, none⟩), .slice qd qe qf] wr fun r w' => ∃ rv, r = .returned rv ∧ ∃ cv', MkGo B base mb vb cv2 cv' X (Mk.allT Mk.lkL y.t s1).2 wr w' ∧ IntsM w' (fun b => SM mb vb cv' b ∨ X b) (Mk.allT Mk.lkL y.t s1).1 rv from
            HA.out y (List.mem_of_getElem? hy) _ B base mb vb cv2 X s1 nc nk fr sc wr (by
              have hr := HPY.out.r
              obtain ⟨oy, ny, vy, ty⟩ := y
              obtain ⟨vs', ts', he, _, _, _, h⟩ := trmR_iff.1 hr
              simp only [List.cons.injEq, and_true] at he
              obtain ⟨_, _, _, rfl⟩ := he
              exact h) HG.out.inn (HWF.out k y (by have := HLV.out; omega) hy) (hrm.mono (by omega)))
          have hra := Room.allT (k := 1) Mk.lkL_ok y.t s1 (hrm.mono (by omega))
          obtain ⟨p, hp⟩ : ∃ p, Mk.allT Mk.lkL y.t s1 = p := ⟨_, rfl⟩
          rw [hp] at HAL HSN hra
          have HRA := Lib.hid hra
          have y3' := HPY.out.e3
          have yl := HPY.out.size
          have e3 := HBX3.out.cell 3 rfl
          have el := HBX3.out.lt
          clear hx hy hpy hs1 hrm hxi hra hp hyn
          go_wp2_with fail
          with_reducible refine HAL.out.mono ?_
          rintro r w2 ⟨rv, rfl, cv3, hg2, hi2⟩
          obtain ⟨ol, ll, cl, rfl⟩ := hi2.1.form
          have HG2 := Lib.hid (HG.out.next hg2)
          have hrl := HRA.out.1.lk Mk.lkL_ok x
          have HL := Lib.hid (lay_void 8 0 (Mk.lkL p.2.vars x) 0 p.1 ol ll cl w2 HG2.out.inn (by have := HRA.out.1.1; omega) (by constructor <;> omega) (by constructor <;> omega) ⟨by omega, by omega⟩ (by constructor <;> omega) hi2)
          have zk := look_run HG2.out.inn.st.vars x HXI.out
          have m2 := HG2.out.inn.st.box.cell 2 rfl
          have ml := HG2.out.inn.st.box.lt
          obtain ⟨rg, hrg⟩ : ∃ rg, Mk.lkL p.2.vars x = rg := ⟨_, rfl⟩
          rw [hrg] at HL HSN zk
          clear hg2 hi2 hrl y3' yl e3 el hxc hxl hrg HAL
          go_wp2_with fail
          with_reducible refine HL.out.mono ?_
          rintro r w6 ⟨fv, rfl, cv6, hg6⟩
          have HG6 := Lib.hid (show MkGo B base mb vb cv cv6 X (Mk.fill Mk.lkL (v.take (k + 1)) t s0) W1 w6 from by rw [HSN.out]; exact HG2.out.next hg6)
          clear hg6 HL zk m2 ml
          go_wp2_with fail
          go_roundg (j - (k + 1))
          case measure => omega
          case rel => exact ⟨k + 1, cv6, rfl, by go_num, by omega, HG6⟩
        · obtain rfl : k = j := by omega
          have HE := Lib.hid (show v.take k = v from List.take_of_length_le (by rw [← HLV.out]; exact Nat.le_refl _))
          have hg := HG.out
          rw [HE.out, ← HS0.out] at hg
          have HG9 := Lib.hid (hg.before HB1.out hsz)
          clear hg HG
          go_wp2_with fail
          first | go_end0 | (refine bodyPost_ret (results_none rfl _ _ _) rfl ?_)
          exact ⟨rfl, _, HG9.out⟩
end Go.Proofs.YtigkhmppnnljiaaGreatDoor

namespace Go.Proofs.YtigkhmppnnljiaaGreatDoor
open Go Go.RowKit

/-- What the checker keeps between codes. -/
structure ChkM (W : World) (cb bb : Nat) (nc nk : Int) (fr : Bool) (size : Int) (l : List Int) : Prop where
  box : BoxL W cb 103 [.int .i64 3, .int .i64 nc, .int .i64 nk, .bool fr, .int .i64 size, .map (some bb)]
  bound : MapVB W bb l.length (setOf l)
  new : Trm.newB (fun _ => false) l = true
theorem ChkM.keep {W W' : World} {cb bb : Nat} {nc nk : Int} {fr : Bool} {size : Int} {l : List Int} (h : ChkM W cb bb nc nk fr size l) (hb : Below W.heap.size W W') : ChkM W' cb bb nc nk fr size l := ⟨h.box.keep hb, h.bound.keep hb, h.new⟩
theorem ChkM.scoped {W : World} {cb bb : Nat} {nc nk : Int} {fr : Bool} {size : Int} {l : List Int} (h : ChkM W cb bb nc nk fr size l) : ChkS (W.alloc (.map #[] 0)) cb bb W.heap.size nc nk fr size l (fun _ => false) :=
  ⟨h.box.alloc _, h.bound.keep (Below.one _ _), (MapVB.new W).mono (Nat.zero_le _), h.new, fun e => by have := h.bound.lt; omega⟩
theorem ChkS.unscoped {W : World} {cb bb sb : Nat} {nc nk : Int} {fr : Bool} {size : Int} {l : List Int} {sc : Int → Bool} (h : ChkS W cb bb sb nc nk fr size l sc) : ChkM W cb bb nc nk fr size l := ⟨h.box, h.bound, h.new⟩
/-- How many terms a module has. -/
def Mdl.all (m : Mdl) : Nat := m.body.all + (m.codes.map fun c => c.body.all).sum
theorem codesB_step {nc nk : Int} {c : Cod} {l : List Cod} {_b lj : List Int} (hl : Trm.newB (fun _ => false) lj = true) : Mdl.codesB nc nk (c :: l) (setOf lj) = ((!c.rest || decide (0 < c.v.length)) && (Trm.newB (fun _ => false) (lj ++ c.v ++ c.body.bnd) && (c.body.wf nc nk true (Trm.addV (fun _ => false) c.v) && Mdl.codesB nc nk l (setOf (lj ++ c.v ++ c.body.bnd))))) := by
  rw [Mdl.codesB, List.append_assoc, Trm.newB_append (a := lj), hl, Bool.true_and]
  unfold setOf
  simp only [Trm.addV_append]
theorem sum_take_le : ∀ (l : List Nat) (j : Nat) (x : Nat), l[j]? = some x → (l.take j).sum + x ≤ l.sum
  | [], j, x, h => by simp at h
  | y :: l, 0, x, h => by
    simp only [List.getElem?_cons_zero, Option.some.injEq] at h
    subst h
    simp
  | y :: l, j + 1, x, h => by
    have := sum_take_le l j x (by simpa using h)
    simp only [List.take_succ_cons, List.sum_cons]
    omega

theorem sum_all_take (l : List Cod) (j : Nat) (c : Cod) (h : l[j]? = some c) : ((l.take (j + 1)).map fun c => c.body.all).sum = ((l.take j).map fun c => c.body.all).sum + c.body.all ∧ ((l.take j).map fun c => c.body.all).sum + c.body.all ≤ (l.map fun c => c.body.all).sum := by
  constructor
  · rw [List.take_add_one, h]
    simp
  · have := sum_take_le (l.map fun c => c.body.all) j c.body.all (by simp [h])
    rwa [List.map_take]
theorem ChkM.freed {W : World} {cb bb : Nat} {nc nk : Int} {fr : Bool} {size : Int} {l : List Int} (h : ChkM W cb bb nc nk fr size l) : ChkM (W.setCell ⟨cb, 3, none⟩ (.bool true)) cb bb nc nk true size l :=
  ⟨h.box.set 3 _, h.bound.same (setCell_heap_other W ⟨cb, 3, none⟩ _ (fun e => map_box_ne h.bound h.box e.symm)), h.new⟩
/-- The head of a code. -/
theorem codR_open {W : World} {B : Nat} {c : Cod} {cs : List Value} (h : CodR W B c cs) : ∃ ov lv cv q r u q' r' u', cs = [.slice ov lv cv, .bool c.rest, .int .i64 c.body.op, .int .i64 c.body.n, .slice q r u, .slice q' r' u'] ∧ SlC W B 1 IntR c.v (.slice ov lv cv) ∧ TrmR W B c.body [.int .i64 c.body.op, .int .i64 c.body.n, .slice q r u, .slice q' r' u'] := by
  obtain ⟨vs, b0, b1, b2, b3, rfl, h1, h2⟩ := h
  obtain ⟨q, r, u, q', r', u', rfl, rfl, rfl, rfl, _⟩ := TrmR.shape h2
  obtain ⟨ov, lv, cv, rfl⟩ := h1.form
  exact ⟨_, _, _, _, _, _, _, _, _, rfl, h1, h2⟩

set_option maxHeartbeats 8000000 in
set_option maxRecDepth 100000 in
theorem check_any (m : Mdl) (v : Value) (B : Nat) (w : World) (hv : MdlR w B m v) (hB : B ≤ w.heap.size) (hs : m.all ≤ 19000) (hd : m.body.all ≤ 390 ∧ ∀ c ∈ m.codes, c.body.all ≤ 390) (hn : m.codes.length ≤ 1000000) (E : Int) (hE : (if m.okB then (0 : Int) else 5) = E) :
    Calls Tryz.prog 38 #[v] w fun e w' => e = .returned (.int .i64 E) ∧ Below w.heap.size w w' := by
  obtain ⟨cc, pp, b0, b1, b2, b3, rfl, hcon, hcod, hbody⟩ := hv
  obtain ⟨q, r, u, q', r', u', rfl, rfl, rfl, rfl, hbn⟩ := TrmR.shape hbody
  obtain ⟨oc, lc, kc, rfl⟩ : ∃ o l c, cc = .slice o l c := by obtain ⟨o, l, c, h, _⟩ := hcon; exact ⟨o, l, c, h⟩
  have hlc : lc = m.consts.length := by
    obtain ⟨o, l, c, h, h2, _⟩ := hcon
    simp only [Value.slice.injEq] at h
    obtain ⟨rfl, rfl, rfl⟩ := h
    exact h2
  obtain ⟨op, lp, kp, rfl⟩ := hcod.form
  obtain ⟨hlp, hkp, hmp⟩ := hcod.lens
  obtain ⟨W3, hW3⟩ : ∃ W3, ((w.alloc (.cells #[.slice oc lc kc, .slice op lp kp, .int .i64 m.body.op, .int .i64 m.body.n, .slice q r u, .slice q' r' u'] 43)).alloc (.map #[] 0)).alloc (.cells #[.int .i64 3, .int .i64 lc, .int .i64 lp, .bool false, .int .i64 0, .map (some (w.heap.size + 1))] 103) = W3 := ⟨_, rfl⟩
  have HB3 := Lib.hid (show Below w.heap.size w W3 from by rw [← hW3]; exact ((Below.one w _).trans ((Below.one _ _).mono (by simp))).trans ((Below.one _ _).mono (by simp; omega)))
  have HM3 := Lib.hid (show BoxL W3 w.heap.size 43 [.slice oc lc kc, .slice op lp kp, .int .i64 m.body.op, .int .i64 m.body.n, .slice q r u, .slice q' r' u'] from by rw [← hW3]; exact ((BoxL.new rfl _ _).alloc _).alloc _)
  have HC3 := Lib.hid (show ChkM W3 (w.heap.size + 1 + 1) (w.heap.size + 1) lc lp false 0 [] from by
    rw [← hW3]
    refine ⟨BoxL.new (by simp) _ _, ?_, rfl⟩
    have h := MapVB.new (w.alloc (.cells #[.slice oc lc kc, .slice op lp kp, .int .i64 m.body.op, .int .i64 m.body.n, .slice q r u, .slice q' r' u'] 43))
    rw [show (w.alloc (.cells #[.slice oc lc kc, .slice op lp kp, .int .i64 m.body.op, .int .i64 m.body.n, .slice q r u, .slice q' r' u'] 43)).heap.size = w.heap.size + 1 by simp] at h
    have e : setOf [] = fun _ => false := by funext x; simp [setOf, Trm.addV]
    rw [e]
    exact h.keep (Below.one _ _))
  have HW := Lib.hid hW3
  have HCON := Lib.hid hcon
  have HCOD := Lib.hid hcod
  have HBODY := Lib.hid hbody
  have HLP := Lib.hid hlp
  have HDC := Lib.hid hd.2
  have hd1 := hd.1
  have hlpn : lp ≤ 1000000 := by omega
  have hlp0 : lp ≤ 9223372036854775807 := by omega
  have hsum : m.body.all + ((m.codes.map fun c => c.body.all).sum) ≤ 19000 := hs
  obtain ⟨q1, hq1⟩ : ∃ q1, (m.consts.all fun x => Dat.right x 0) = q1 := ⟨_, rfl⟩
  obtain ⟨q2, hq2⟩ : ∃ q2, (Trm.wf lc lp false m.body (fun _ => false) && Trm.newB (fun _ => false) ([] ++ m.body.bnd)) = q2 := ⟨_, rfl⟩
  have HR := Lib.hid (show (if (q1 && (q2 && Mdl.codesB lc lp m.codes (setOf m.body.bnd))) then (0 : Int) else 5) = E from by
    rw [← hE, Mdl.okB, ← hq1, ← hq2, List.nil_append, hlc, hlp]; rfl)
  have HK1 := Lib.hid (constants_any m.consts (.slice oc lc kc) B W3 (HCON.out.kept (HB3.out.mono hB)) (by have := HB3.out.size; omega))
  rw [hq1] at HK1
  have HQ2 := Lib.hid hq2
  have hmm := @run_makeMap Tryz.prog
  clear hW3 hcon hcod hbody hlp hlc hd hE hq1 hq2 hbn hs hn hkp hmp
  go_enter Tryz.func38, Tryz.ntmps38
  go_upto_region 2 with fail
  rw [HW.out]
  have m0 := HM3.out.cell 0 rfl
  have ml := HM3.out.lt
  go_wp2_with fail
  with_reducible refine HK1.out.mono ?_
  rintro e w4 ⟨rfl, hb4⟩
  have HB4 := Lib.hid (HB3.out.trans (hb4.mono HB3.out.size))
  have HM4 := Lib.hid (HM3.out.keep hb4)
  have HC4 := Lib.hid (HC3.out.keep hb4)
  clear hb4 HK1 m0 ml HC3 HM3 HW
  cases q1 with
  | false =>
    obtain rfl : (5 : Int) = E := HR.out
    go_wp2_with fail
    all_goals go_ret
    all_goals exact ⟨rfl, HB4.out⟩
  | true =>
    have m2 := HM4.out.cell 2 rfl
    have m3 := HM4.out.cell 3 rfl
    have m4 := HM4.out.cell 4 rfl
    have m5 := HM4.out.cell 5 rfl
    have ml := HM4.out.lt
    have HB5 := Lib.hid (HB4.out.trans ((Below.one w4 (.map #[] 0)).mono HB4.out.size))
    have hz4 : w.heap.size + 1 + 1 < w4.heap.size := HC4.out.box.lt
    have HK2 := Lib.hid (tright_any m.body _ _ _ _ B (w.heap.size + 1 + 1) (w.heap.size + 1) w4.heap.size lc lp 0 false [] (fun _ => false) 0 (w4.alloc (.map #[] 0)) (TrmR.kept (HB5.out.mono hB) _ _ HBODY.out) (fun b hb => by rcases hb with rfl | rfl | rfl <;> omega) (by have := HB5.out.size; omega) HC4.out.scoped (fun _ h => by cases h) (by omega) (by omega) (by omega) (by omega))
    rw [HQ2.out] at HK2
    go_wp2_with fail
    with_reducible refine HK2.out.mono ?_
    rintro e w5 ⟨rfl, ht5, hg5, hx5⟩
    have HBT := Lib.hid (HB5.out.trans (ht5.below (fun b hb => by rcases hb with rfl | rfl | rfl <;> omega) HB5.out.size))
    have HM5 := Lib.hid (ht5.box (HM4.out.alloc (.map #[] 0)) (fun hb => by rcases hb with h | h | h <;> omega))
    have HG5 := Lib.hid hg5
    clear ht5 hg5 hx5 HK2 m2 m3 m4 m5 ml HM4 HC4
    cases q2 with
    | false =>
      obtain rfl : (5 : Int) = E := HR.out
      go_wp2_with fail
      all_goals go_ret
      all_goals exact ⟨rfl, HBT.out⟩
    | true =>
      obtain ⟨l0, hp0, hcs0⟩ := HG5.out rfl
      have HM0 := Lib.hid hcs0.unscoped
      have HR0 := Lib.hid (show (if Mdl.codesB lc lp m.codes (setOf l0) then (0 : Int) else 5) = E from by
        have h := HR.out
        rw [show setOf m.body.bnd = setOf l0 from (Trm.addV_perm (by simpa using hp0) _).symm] at h
        simpa using h)
      have c3 := HM0.out.box.cell 3 rfl
      have cz := HM0.out.box.free 3
      have cl := HM0.out.box.lt
      have HMF := Lib.hid HM0.out.freed
      have HB6 := Lib.hid (HBT.out.setCell (p := ⟨w.heap.size + 1 + 1, 3, none⟩) (by dsimp only; omega) (.bool true))
      have HM6 := Lib.hid (HM5.out.other ⟨w.heap.size + 1 + 1, 3, none⟩ (.bool true) (by dsimp only; omega))
      clear hp0 hcs0 HG5
      go_upto_region 5 with fail
      clear c3 cz cl
      obtain ⟨W6, hW6⟩ : ∃ W6, w5.setCell ⟨w.heap.size + 1 + 1, 3, none⟩ (.bool true) = W6 := ⟨_, rfl⟩
      rw [hW6] at HMF HB6 HM6 ⊢
      clear hW6 HM0 HM5 HBT HB5 HB4
      have m1 := HM6.out.cell 1 rfl
      have ml := HM6.out.lt
      go_wp2_with fail
      go_loopg [34] lp (fun G i wr => ∃ (j : Nat) (l : List Int), G = lp - j ∧ j ≤ lp ∧ i = .int .i64 j ∧ Hid (ChkM wr (w.heap.size + 1 + 1) (w.heap.size + 1) lc lp true ((0 : Int) + (m.body.all : Nat) + (((m.codes.take j).map fun c => c.body.all).sum : Nat)) l) ∧ Hid ((if Mdl.codesB lc lp (m.codes.drop j) (setOf l) then (0 : Int) else 5) = E) ∧ Hid (BoxL wr w.heap.size 43 [.slice oc lc kc, .slice op lp kp, .int .i64 m.body.op, .int .i64 m.body.n, .slice q r u, .slice q' r' u']) ∧ Hid (Below w.heap.size w wr))
      case atStart => exact ⟨0, l0, rfl, by omega, rfl, Lib.hid (by simpa using HMF.out), HR0, HM6, HB6⟩
      case round =>
        obtain ⟨j, l, rfl, hj, rfl, HCM, HRJ, HMR, HBR⟩ := hrel
        clear m1 ml HMF HM6 HB6 HR0
        by_cases hjl : j < lp
        · obtain ⟨c, hx⟩ : ∃ c, m.codes[j]? = some c := ⟨_, List.getElem?_eq_getElem (by rw [← HLP.out]; exact hjl)⟩
          obtain ⟨b, off, cs, ho, _, hcl, hcell, hcr⟩ := HCOD.out.at (HBR.out.mono hB) hx
          subst ho
          obtain ⟨ov, lv, cv, p1, p2, p3, p4, p5, p6, rfl, hvv, hir⟩ := codR_open hcr
          have e0 := hcell 0 _ rfl
          have e1 := hcell 1 _ rfl
          have e2 := hcell 2 _ rfl
          have e3 := hcell 3 _ rfl
          have e4 := hcell 4 _ rfl
          have e5 := hcell 5 _ rfl
          simp only [Nat.add_zero] at e0
          have hbl := cell_lt e0
          have hsums := sum_all_take m.codes j c hx
          have hcd := HDC.out c (List.mem_of_getElem? hx)
          have HDR := Lib.hid (show m.codes.drop j = c :: m.codes.drop (j + 1) from by
            obtain ⟨h1, h2⟩ := List.getElem?_eq_some_iff.1 hx
            rw [List.drop_eq_getElem_cons h1, h2])
          have HST := Lib.hid (codesB_step (nc := lc) (nk := lp) (c := c) (l := m.codes.drop (j + 1)) (_b := []) (lj := l) HCM.out.new)
          obtain ⟨W7, hW7⟩ : ∃ W7, (wr.alloc (.cells #[.slice ov lv cv, .bool c.rest, .int .i64 c.body.op, .int .i64 c.body.n, .slice p1 p2 p3, .slice p4 p5 p6] 50)).alloc (.map #[] 0) = W7 := ⟨_, rfl⟩
          have HW7 := Lib.hid hW7
          have hzr : w.heap.size + 1 + 1 < wr.heap.size := HCM.out.box.lt
          have HB7 := Lib.hid (show Below wr.heap.size wr W7 from by rw [← hW7]; exact (Below.one wr _).trans ((Below.one _ _).mono (by simp)))
          have HX7 := Lib.hid (show BoxL W7 wr.heap.size 50 [.slice ov lv cv, .bool c.rest, .int .i64 c.body.op, .int .i64 c.body.n, .slice p1 p2 p3, .slice p4 p5 p6] from by rw [← hW7]; exact (BoxL.new rfl _ _).alloc _)
          have HC7 := Lib.hid (show ChkS W7 (w.heap.size + 1 + 1) (w.heap.size + 1) (wr.heap.size + 1) lc lp true ((0 : Int) + (m.body.all : Nat) + (((m.codes.take j).map fun c => c.body.all).sum : Nat)) l (fun _ => false) from by
            rw [← hW7]
            have h := (HCM.out.keep (Below.one wr (.cells #[.slice ov lv cv, .bool c.rest, .int .i64 c.body.op, .int .i64 c.body.n, .slice p1 p2 p3, .slice p4 p5 p6] 50))).scoped
            rwa [show (wr.alloc (.cells #[.slice ov lv cv, .bool c.rest, .int .i64 c.body.op, .int .i64 c.body.n, .slice p1 p2 p3, .slice p4 p5 p6] 50)).heap.size = wr.heap.size + 1 by simp] at h)
          have HBW7 := Lib.hid (HBR.out.trans (HB7.out.mono HBR.out.size))
          have HM7 := Lib.hid (HMR.out.keep HB7.out)
          have HVV := Lib.hid (hvv.kept (HBW7.out.mono hB) fun _ _ _ h => h)
          have HIR := Lib.hid (TrmR.kept (HBW7.out.mono hB) _ _ hir)
          have HLV := Lib.hid hvv.lens.1
          obtain ⟨size, hsz⟩ : ∃ size, (0 : Int) + (m.body.all : Nat) + (((m.codes.take j).map fun c => c.body.all).sum : Nat) = size := ⟨_, rfl⟩
          rw [hsz] at HC7
          have HSZ := Lib.hid (show (0 : Int) + (m.body.all : Nat) + (((m.codes.take (j + 1)).map fun c => c.body.all).sum : Nat) = size + c.body.all from by rw [← hsz, hsums.1]; omega)
          have hs0 : 0 ≤ size ∧ size + c.body.all ≤ 19000 := by omega
          have m1 := HMR.out.cell 1 rfl
          have ml := HMR.out.lt
          clear hW7 hx hcell hcl hcr hvv hir hsums hsz
          have HBI := Lib.hid (bind_any (w.heap.size + 1 + 1) (w.heap.size + 1) (wr.heap.size + 1) lc lp true size l c.v (fun _ => false) B W7 ov lv cv HVV.out (fun b hb => by rcases hb with rfl | rfl | rfl <;> omega) (by have := HBW7.out.size; omega) HC7.out)
          obtain ⟨q3, hq3⟩ : ∃ q3, Trm.newB (fun _ => false) (l ++ c.v) = q3 := ⟨_, rfl⟩
          rw [hq3] at HBI
          have HQ3 := Lib.hid hq3
          clear hq3
          go_upto_region 9 with fail
          rw [HW7.out]
          clear e0 e1 e2 e3 e4 e5 m1 ml HW7
          have x0 := HX7.out.cell 0 rfl
          have x1 := HX7.out.cell 1 rfl
          have xl := HX7.out.lt
          have g0 : ((lv : Int) == 0) = decide (c.v.length = 0) := by rw [HLV.out, Bool.eq_iff_iff]; simp
          have HSTV := Lib.hid (show (if ((!c.rest || decide (0 < c.v.length)) && (Trm.newB (fun _ => false) (l ++ c.v ++ c.body.bnd) && (Trm.wf lc lp true c.body (Trm.addV (fun _ => false) c.v) && Mdl.codesB lc lp (m.codes.drop (j + 1)) (setOf (l ++ c.v ++ c.body.bnd))))) then (0 : Int) else 5) = E from by
            have h := HRJ.out
            rw [HDR.out, HST.out] at h
            exact h)
          by_cases hbad : c.rest = true ∧ c.v.length = 0
          · obtain rfl : (5 : Int) = E := by
              have h := HSTV.out
              rw [hbad.1, decide_eq_false (show ¬ 0 < c.v.length by omega)] at h
              exact h
            rw [hbad.1] at x1
            rw [decide_eq_true hbad.2] at g0
            go_wp2_with fail
            all_goals go_ret
            all_goals exact ⟨rfl, HBW7.out⟩
          have HGU := Lib.hid (show (!c.rest || decide (0 < c.v.length)) = true from by
            cases hr : c.rest with
            | false => rfl
            | true =>
              have : c.v.length ≠ 0 := fun h => hbad ⟨hr, h⟩
              simp; omega)
          have HREST : ∃ g1 : Bool, c.rest = g1 ∧ (g1 = true → ((lv : Int) == 0) = false) := ⟨c.rest, rfl, fun h => by
            rw [g0]
            exact decide_eq_false fun h' => hbad ⟨h, h'⟩⟩
          obtain ⟨g1, hg1, hg2⟩ := HREST
          rw [hg1] at x1
          clear g0 hbad hg1
          cases g1 with
          | false =>
            clear hg2
            go_wp2_with fail
            with_reducible refine HBI.out.mono ?_
            rintro e w8 ⟨rfl, ht8, hg8, hb8⟩
            have HT8 := Lib.hid ht8
            have HG8 := Lib.hid hg8
            have HBW8 := Lib.hid (HBW7.out.trans (ht8.below (fun b hb => by rcases hb with rfl | rfl | rfl <;> omega) HBW7.out.size))
            have HX8 := Lib.hid (ht8.box HX7.out (fun hb => by rcases hb with h | h | h <;> omega))
            have HM8 := Lib.hid (ht8.box HM7.out (fun hb => by rcases hb with h | h | h <;> omega))
            have HIR8 := Lib.hid (TrmR.kept (ht8.below (b0 := B) (fun b hb => by rcases hb with rfl | rfl | rfl <;> omega) (by have := HBW7.out.size; omega)) _ _ HIR.out)
            clear ht8 hg8 hb8 HBI x0 x1 xl
            cases q3 with
            | false =>
              obtain rfl : (5 : Int) = E := by
                have h := HSTV.out
                rw [HGU.out, show Trm.newB (fun _ => false) (l ++ c.v ++ c.body.bnd) = false from by
                  cases hq : Trm.newB (fun _ => false) (l ++ c.v ++ c.body.bnd) with
                  | false => rfl
                  | true =>
                    have := newB_more hq
                    rw [HQ3.out] at this
                    cases this] at h
                exact h
              go_wp2_with fail
              all_goals go_ret
              all_goals exact ⟨rfl, HBW8.out⟩
            | true =>
              have HC8 := Lib.hid (HG8.out rfl)
              have x2 := HX8.out.cell 2 rfl
              have x3 := HX8.out.cell 3 rfl
              have x4 := HX8.out.cell 4 rfl
              have x5 := HX8.out.cell 5 rfl
              have xl := HX8.out.lt
              have HRT := Lib.hid (tright_any c.body _ _ _ _ B (w.heap.size + 1 + 1) (w.heap.size + 1) (wr.heap.size + 1) lc lp size true (l ++ c.v) (Trm.addV (fun _ => false) c.v) 0 w8 HIR8.out (fun b hb => by rcases hb with rfl | rfl | rfl <;> omega) (by have := HBW8.out.size; omega) HC8.out (fun x hx => by
                simp only [Trm.addV, Bool.false_or, List.contains_eq_mem, decide_eq_true_eq] at hx
                exact List.mem_append_right _ hx) hs0.1 (by omega) (by omega) (by omega))
              obtain ⟨q4, hq4⟩ : ∃ q4, (Trm.wf lc lp true c.body (Trm.addV (fun _ => false) c.v) && Trm.newB (fun _ => false) (l ++ c.v ++ c.body.bnd)) = q4 := ⟨_, rfl⟩
              rw [hq4] at HRT
              have HQ4 := Lib.hid hq4
              clear hq4
              go_wp2_with fail
              with_reducible refine HRT.out.mono ?_
              rintro e w9 ⟨rfl, ht9, hg9, hb9⟩
              have HG9 := Lib.hid hg9
              have HBW9 := Lib.hid (HBW8.out.trans (ht9.below (fun b hb => by rcases hb with rfl | rfl | rfl <;> omega) HBW8.out.size))
              have HM9 := Lib.hid (ht9.box HM8.out (fun hb => by rcases hb with h | h | h <;> omega))
              clear ht9 hg9 hb9 HRT x2 x3 x4 x5 xl
              cases q4 with
              | false =>
                obtain rfl : (5 : Int) = E := by
                  have h := HSTV.out
                  have hq := HQ4.out
                  rw [HGU.out] at h
                  revert h hq
                  cases Trm.newB (fun _ => false) (l ++ c.v ++ c.body.bnd) <;> cases Trm.wf lc lp true c.body (Trm.addV (fun _ => false) c.v) <;> simp
                go_wp2_with fail
                all_goals go_ret
                all_goals exact ⟨rfl, HBW9.out⟩
              | true =>
                obtain ⟨l2, hp2, hcs2⟩ := HG9.out rfl
                have HCM2 := Lib.hid (show ChkM w9 (w.heap.size + 1 + 1) (w.heap.size + 1) lc lp true ((0 : Int) + (m.body.all : Nat) + (((m.codes.take (j + 1)).map fun c => c.body.all).sum : Nat)) l2 from by
                  rw [HSZ.out]
                  exact hcs2.unscoped)
                have HRJ2 := Lib.hid (show (if Mdl.codesB lc lp (m.codes.drop (j + 1)) (setOf l2) then (0 : Int) else 5) = E from by
                  have h := HSTV.out
                  have hq := HQ4.out
                  rw [Bool.and_eq_true] at hq
                  rw [HGU.out, hq.1, hq.2, Bool.true_and, Bool.true_and, Bool.true_and, show setOf (l ++ c.v ++ c.body.bnd) = setOf l2 from (Trm.addV_perm hp2 _).symm] at h
                  exact h)
                clear hp2 hcs2
                go_wp2_with fail
                go_roundg (lp - (j + 1))
                case measure => omega
                case rel => exact ⟨j + 1, l2, rfl, by omega, by go_num, HCM2, HRJ2, HM9, HBW9⟩
          | true =>
            have g2 := hg2 rfl
            clear hg2
            go_wp2_with fail
            with_reducible refine HBI.out.mono ?_
            rintro e w8 ⟨rfl, ht8, hg8, hb8⟩
            have HT8 := Lib.hid ht8
            have HG8 := Lib.hid hg8
            have HBW8 := Lib.hid (HBW7.out.trans (ht8.below (fun b hb => by rcases hb with rfl | rfl | rfl <;> omega) HBW7.out.size))
            have HX8 := Lib.hid (ht8.box HX7.out (fun hb => by rcases hb with h | h | h <;> omega))
            have HM8 := Lib.hid (ht8.box HM7.out (fun hb => by rcases hb with h | h | h <;> omega))
            have HIR8 := Lib.hid (TrmR.kept (ht8.below (b0 := B) (fun b hb => by rcases hb with rfl | rfl | rfl <;> omega) (by have := HBW7.out.size; omega)) _ _ HIR.out)
            clear ht8 hg8 hb8 HBI x0 x1 xl
            cases q3 with
            | false =>
              obtain rfl : (5 : Int) = E := by
                have h := HSTV.out
                rw [HGU.out, show Trm.newB (fun _ => false) (l ++ c.v ++ c.body.bnd) = false from by
                  cases hq : Trm.newB (fun _ => false) (l ++ c.v ++ c.body.bnd) with
                  | false => rfl
                  | true =>
                    have := newB_more hq
                    rw [HQ3.out] at this
                    cases this] at h
                exact h
              go_wp2_with fail
              all_goals go_ret
              all_goals exact ⟨rfl, HBW8.out⟩
            | true =>
              have HC8 := Lib.hid (HG8.out rfl)
              have x2 := HX8.out.cell 2 rfl
              have x3 := HX8.out.cell 3 rfl
              have x4 := HX8.out.cell 4 rfl
              have x5 := HX8.out.cell 5 rfl
              have xl := HX8.out.lt
              have HRT := Lib.hid (tright_any c.body _ _ _ _ B (w.heap.size + 1 + 1) (w.heap.size + 1) (wr.heap.size + 1) lc lp size true (l ++ c.v) (Trm.addV (fun _ => false) c.v) 0 w8 HIR8.out (fun b hb => by rcases hb with rfl | rfl | rfl <;> omega) (by have := HBW8.out.size; omega) HC8.out (fun x hx => by
                simp only [Trm.addV, Bool.false_or, List.contains_eq_mem, decide_eq_true_eq] at hx
                exact List.mem_append_right _ hx) hs0.1 (by omega) (by omega) (by omega))
              obtain ⟨q4, hq4⟩ : ∃ q4, (Trm.wf lc lp true c.body (Trm.addV (fun _ => false) c.v) && Trm.newB (fun _ => false) (l ++ c.v ++ c.body.bnd)) = q4 := ⟨_, rfl⟩
              rw [hq4] at HRT
              have HQ4 := Lib.hid hq4
              clear hq4
              go_wp2_with fail
              with_reducible refine HRT.out.mono ?_
              rintro e w9 ⟨rfl, ht9, hg9, hb9⟩
              have HG9 := Lib.hid hg9
              have HBW9 := Lib.hid (HBW8.out.trans (ht9.below (fun b hb => by rcases hb with rfl | rfl | rfl <;> omega) HBW8.out.size))
              have HM9 := Lib.hid (ht9.box HM8.out (fun hb => by rcases hb with h | h | h <;> omega))
              clear ht9 hg9 hb9 HRT x2 x3 x4 x5 xl
              cases q4 with
              | false =>
                obtain rfl : (5 : Int) = E := by
                  have h := HSTV.out
                  have hq := HQ4.out
                  rw [HGU.out] at h
                  revert h hq
                  cases Trm.newB (fun _ => false) (l ++ c.v ++ c.body.bnd) <;> cases Trm.wf lc lp true c.body (Trm.addV (fun _ => false) c.v) <;> simp
                go_wp2_with fail
                all_goals go_ret
                all_goals exact ⟨rfl, HBW9.out⟩
              | true =>
                obtain ⟨l2, hp2, hcs2⟩ := HG9.out rfl
                have HCM2 := Lib.hid (show ChkM w9 (w.heap.size + 1 + 1) (w.heap.size + 1) lc lp true ((0 : Int) + (m.body.all : Nat) + (((m.codes.take (j + 1)).map fun c => c.body.all).sum : Nat)) l2 from by
                  rw [HSZ.out]
                  exact hcs2.unscoped)
                have HRJ2 := Lib.hid (show (if Mdl.codesB lc lp (m.codes.drop (j + 1)) (setOf l2) then (0 : Int) else 5) = E from by
                  have h := HSTV.out
                  have hq := HQ4.out
                  rw [Bool.and_eq_true] at hq
                  rw [HGU.out, hq.1, hq.2, Bool.true_and, Bool.true_and, Bool.true_and, show setOf (l ++ c.v ++ c.body.bnd) = setOf l2 from (Trm.addV_perm hp2 _).symm] at h
                  exact h)
                clear hp2 hcs2
                go_wp2_with fail
                go_roundg (lp - (j + 1))
                case measure => omega
                case rel => exact ⟨j + 1, l2, rfl, by omega, by go_num, HCM2, HRJ2, HM9, HBW9⟩
        · obtain rfl : j = lp := by omega
          obtain rfl : (0 : Int) = E := by
            have h := HRJ.out
            rw [List.drop_eq_nil_of_le (by rw [← HLP.out]; exact Nat.le_refl _)] at h
            exact h
          go_wp2_with fail
          all_goals go_ret
          all_goals exact ⟨rfl, HBR.out⟩
end Go.Proofs.YtigkhmppnnljiaaGreatDoor

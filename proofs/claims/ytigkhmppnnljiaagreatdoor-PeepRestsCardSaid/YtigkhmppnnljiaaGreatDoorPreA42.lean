/-
  What the proofs lean on: RMod.
-/
import Derived.Test.YtigkhmppnnljiaaGreatDoorPreA27
import Derived.Test.YtigkhmppnnljiaaGreatDoorPreA33
import Derived.Test.YtigkhmppnnljiaaGreatDoorPreA40
set_option maxRecDepth 100000
set_option maxHeartbeats 16000000
namespace Go.Proofs.YtigkhmppnnljiaaGreatDoor
section
open Go Go.RowKit
theorem rconsts_any (l : List Dat) (v : Value) (B : Nat) (w : World) (hv : RepS w B l v) (hB : B ≤ w.heap.size) (E : Bool) (hE : (l.all fun x => Dat.right x 0) = E) :
  Calls Tryz.prog 72 #[v] w fun e w' => e = .returned (.bool E) ∧ Below w.heap.size w w' := by
 obtain ⟨ok, nk, ck, rfl, hnk, hcapk, hmaxk, hck⟩ := hv
 have HCK := Lib.hid hck
 have HNK := Lib.hid hnk
 have HE := Lib.hid hE
 clear hck hnk hE
 go_enter Tryz.func72, Tryz.ntmps72
 go_wp2_with fail
 go_loopg [3] nk (fun g i wr => ∃ j : Nat, g = nk - j ∧ j ≤ nk ∧ i = .int .i64 j ∧ Hid ((l.take j).all (fun x => Dat.right x 0) = true) ∧ Hid (Below w.heap.size w wr))
 case atStart => exact ⟨0, rfl, by omega, rfl, Lib.hid (by simp), Lib.hid (Below.refl _ _)⟩
 case round =>
  obtain ⟨j, rfl, hj, rfl, HA, HW⟩ := hrel
  by_cases hjl : j < nk
  ·obtain ⟨x, hx⟩ : ∃ x, l[j]? = some x := ⟨_, List.getElem?_eq_getElem (by rw [← HNK.out]; exact hjl)⟩
   obtain ⟨b, off, k', n', d', s', l', o', len', cap', ho, hxe, e0, e1, e2, e3, e4, er⟩ := part_at2 HCK.out (HW.out.mono hB) hx
   have hbl := cell_lt e0
   obtain ⟨r, hr⟩ : ∃ r, Dat.right x 0 = r := ⟨_, rfl⟩
   have HR := Lib.hid (rRight_to x (.agg #[.int .i64 k', .int .i64 n', .int .i64 d', .string s', .slice o' len' cap']) B wr r hr (by rw [hxe]; exact er) (by have := HW.out.size; omega))
   have HX := Lib.hid hx
   have HRR := Lib.hid hr
   subst ho
   clear hx hr er hxe
   go_wp2_with fail
   refine HR.out.mono ?_
   rintro e w2 ⟨rfl, hb2⟩
   have HW2 := Lib.hid (Below.next HW.out hb2)
   clear hb2 HR e0 e1 e2 e3 e4
   cases r with
   | false =>
    obtain rfl : E = false := by
     rw [← HE.out, List.all_eq_false]
     exact ⟨x, List.mem_of_getElem? HX.out, by rw [HRR.out]; simp⟩
    go_wp2_with fail
    go_ret
    exact ⟨rfl, HW2.out⟩
   | true =>
    have HA2 := Lib.hid (show (l.take (j + 1)).all (fun x => Dat.right x 0) = true from by
     rw [List.take_add_one, HX.out, List.all_append, HA.out]
     simp [HRR.out])
    go_wp2_with fail
    go_roundg (nk - (j + 1))
    case measure => omega
    case rel => exact ⟨j + 1, rfl, by omega, by go_num, HA2, HW2⟩
  ·obtain rfl : j = nk := by omega
   obtain rfl : E = true := by
    have h2 := HA.out
    rw [List.take_of_length_le (by rw [← HNK.out]; exact Nat.le_refl _)] at h2
    rw [← HE.out, h2]
   go_wp2_with fail
   go_ret
   exact ⟨rfl, HW.out⟩
theorem IntsM.of_low {W : World} {B : Nat} {S : Nat → Prop} {l : List Int} {v : Value} (h : SlC W B 1 IntR l v) (hB : B ≤ W.heap.size) (hS : ∀ b, S b → B ≤ b) : IntsM W S l v := by
 refine ⟨h.wider hB, fun b hb hl hs => ?_⟩
 obtain ⟨o, len, cap, rfl, _, _, _, h4⟩ := h
 cases o with
 | none => simp [Value.ownBlock] at hb
 | some a =>
  have e : a.block = b := by simpa [Value.ownBlock] using hb
  have h1 := (h4.1 hl).2
  have h2 := hS b hs
  omega
theorem RCk.low {W : World} {base cb : Nat} {bsl : Value} {nc nk : Int} {fr : Bool} {size : Int} {l : List Int} {ok : Bool} (h : RCk W base cb bsl nc nk fr size l ok) {H : Nat} (h1 : H ≤ base) (h2 : H ≤ cb) : ∀ b, SR cb bsl b → H ≤ b := fun b hb => by
 rcases hb with rfl | hb
 ·exact h2
 ·exact Nat.le_trans h1 (ownBlock_base h.row hb)
theorem RCk.freed {W : World} {base cb : Nat} {bsl : Value} {nc nk : Int} {fr : Bool} {size : Int} {l : List Int} {ok : Bool} (h : RCk W base cb bsl nc nk fr size l ok) : RCk (W.setCell ⟨cb, 3, none⟩ (.bool true)) base cb bsl nc nk true size l ok :=
 ⟨h.box.set 3 _, ownsRow_set h.row _ _ (fun r hr e => h.ne (by have e : r = cb := e; rw [← e]; exact hr)), h.ints⟩
def RSt (m : Mdl) (R : Bool) (j : Nat) (ok : Bool) (s : Int) (l : List Int) : Prop :=
 (ok = true → (Mdl.rcodes m.consts.length m.codes.length (m.codes.drop j) (s, l)).isSome = R ∧ Trm.newB (fun _ => false) l = true ∧ 0 ≤ s ∧ s ≤ 20000) ∧ (ok = false → R = false)
theorem rcodes_at {nc nk : Int} {cs : List Cod} {j : Nat} {c : Cod} {s : Int × List Int} (hc : cs[j]? = some c) : Mdl.rcodes nc nk (cs.drop j) s = if (Trm.newB (fun _ => false) (s.2 ++ c.v) && (!c.rest || decide (0 < c.v.length))) = true then (match Trm.rchk nc nk true c.body c.v 0 (s.1, s.2 ++ c.v) with | some s' => Mdl.rcodes nc nk (cs.drop (j + 1)) s' | none => none) else none := by
 have hj := (List.getElem?_eq_some_iff.1 hc).1
 have hd : cs.drop j = c :: cs.drop (j + 1) := by
  rw [List.drop_eq_getElem_cons hj, (List.getElem?_eq_some_iff.1 hc).2]
 rw [hd, Mdl.rcodes]
 rfl
def Mdl.slim (m : Mdl) : Prop := m.body.slim ∧ ∀ c ∈ m.codes, c.body.slim
theorem rmod_any (m : Mdl) (v : Value) (B : Nat) (w : World) (hv : MdlR w B m v) (hB : B ≤ w.heap.size) (hs : m.slim) (E : Int) (hE : (if m.rokB then (0 : Int) else 5) = E) :
  Calls Tryz.prog 42 #[v] w fun e w' => e = .returned (.int .i64 E) ∧ Below w.heap.size w w' := by
 obtain ⟨cc, pp, b0, b1, b2, b3, rfl, hcon, hcod, hbody⟩ := hv
 obtain ⟨q, r, u, q', r', u', rfl, rfl, rfl, rfl, hbn⟩ := TrmR.shape hbody
 obtain ⟨oc, lc, kc, rfl⟩ : ∃ o l c, cc = .slice o l c := by obtain ⟨o, l, c, h, _⟩ := hcon; exact ⟨o, l, c, h⟩
 have hlc : lc = m.consts.length := by
  obtain ⟨o, l, c, h, h2, _⟩ := hcon
  simp only [Value.slice.injEq] at h
  obtain ⟨rfl, rfl, rfl⟩ := h
  exact h2
 obtain ⟨op, lp, kp, rfl⟩ := hcod.form
 obtain ⟨hlp, hkp, hmp⟩ := hcod.lens
 obtain ⟨W1, hW1⟩ : ∃ W1, w.alloc (.cells #[.slice oc lc kc, .slice op lp kp, .int .i64 m.body.op, .int .i64 m.body.n, .slice q r u, .slice q' r' u'] 43) = W1 := ⟨_, rfl⟩
 have HW := Lib.hid hW1
 have HB1 := Lib.hid (show Below w.heap.size w W1 from by rw [← hW1]; exact Below.one w _)
 have HM1 := Lib.hid (show BoxL W1 w.heap.size 43 [.slice oc lc kc, .slice op lp kp, .int .i64 m.body.op, .int .i64 m.body.n, .slice q r u, .slice q' r' u'] from by rw [← hW1]; exact BoxL.new rfl _ _)
 have hz1 : W1.heap.size = w.heap.size + 1 := by rw [← hW1]; simp
 have HCON := Lib.hid hcon
 have HCOD := Lib.hid hcod
 have HBODY := Lib.hid hbody
 have HLP := Lib.hid hlp
 have HS := Lib.hid hs
 obtain ⟨qc, hqc⟩ : ∃ qc, (m.consts.all fun x => Dat.right x 0) = qc := ⟨_, rfl⟩
 have HQC := Lib.hid hqc
 obtain ⟨R, hR⟩ : ∃ R, m.rokB = R := ⟨_, rfl⟩
 rw [hR] at hE
 have HR := Lib.hid hR
 have HE := Lib.hid hE
 have HNC := Lib.hid hlc
 clear hcon hcod hbody hlp hW1 hqc hR hE hs hlc
 go_enter Tryz.func42, Tryz.ntmps42
 go_upto_region 1 with fail
 rw [HW.out]
 have HD := Lib.hid ((Below.refl W1.heap.size W1).drew)
 refine wp_region_quiet_class (Below W1.heap.size W1) 10 (by kernel_rfl) (by kernel_rfl) HD.out ?_
 intro T0 _ WW HWW HWW2
 have z0 : ∀ t, (WW t).cell? _ = _ := fun t => ((HWW t).cell (p := ⟨w.heap.size, 0, none⟩) HM1.out.lt).trans (HM1.out.cell 0 rfl)
 have z1 : ∀ t, (WW t).cell? _ = _ := fun t => ((HWW t).cell (p := ⟨w.heap.size, 1, none⟩) HM1.out.lt).trans (HM1.out.cell 1 rfl)
 have HCT : Hid (∀ t, Calls Tryz.prog 72 #[.slice oc lc kc] (WW t) fun e w' => e = .returned (.bool qc) ∧ ∃ t', w' = WW t') := Lib.hid (fun t => calls_class HWW2 ((rconsts_any m.consts (.slice oc lc kc) B (WW t) (HCON.out.kept ((HB1.out.trans ((HWW t).mono HB1.out.size)).mono hB)) (by have := (HWW t).size; omega) qc HQC.out).mono fun e w' h => ⟨h.1, (HWW t).trans (h.2.mono (HWW t).size)⟩))
 have HWH := Lib.hid HWW
 clear HWW HWW2
 simp only [List.take_succ_cons, List.take_zero, List.drop_succ_cons, List.drop_zero]
 repeat (go_big_quiet_step (first | (go_at_call 72; exact HCT.out _) | fail))
 refine wpQuiet_nil ?_
 intro t'
 obtain ⟨W2, hW2⟩ : ∃ W2, WW t' = W2 := ⟨_, rfl⟩
 have HB2 := Lib.hid (show Below W1.heap.size W1 W2 from hW2 ▸ HWH.out t')
 rw [hW2]
 clear z0 z1 HCT HWH hW2
 obtain ⟨cb, hcb⟩ : ∃ cb, W2.heap.size = cb := ⟨_, rfl⟩
 obtain ⟨W3, hW3⟩ : ∃ W3, W2.alloc (.cells #[.int .i64 3, .int .i64 lc, .int .i64 lp, .bool false, .int .i64 0, .slice none 0 0, .bool qc] 114) = W3 := ⟨_, rfl⟩
 have HB3 := Lib.hid (show Below W1.heap.size W1 W3 from by rw [← hW3]; exact Below.next HB2.out (Below.one W2 _))
 have hcb1 : W1.heap.size ≤ cb := by rw [← hcb]; exact HB2.out.size
 have hz3 : W3.heap.size = cb + 1 := by rw [← hW3, ← hcb]; simp
 have HC3 := Lib.hid (show RCk W3 (cb + 1) cb (.slice none 0 0) m.consts.length m.codes.length false 0 [] qc from ⟨by rw [← hW3, ← hcb, ← HNC.out, ← HLP.out]; exact BoxL.new rfl _ _, World.ownsRow_nil _ _ _ _, fun x hx => by simp at hx⟩)
 have HM3 := Lib.hid (HM1.out.keep HB3.out)
 have HT3 := Lib.hid (show Turned (fun b => w.heap.size + 1 ≤ b) W1 W3 from Turned.of_below HB3.out)
 have HWE := Lib.hid hW3
 have HCB := Lib.hid hcb
 clear hW3 hcb
 go_upto_region 2 with fail
 rw [HCB.out, HWE.out]
 have HRD := Lib.hid (show R = (qc && (match Trm.rchk m.consts.length m.codes.length false m.body [] 0 (0, []) with | some s => (Mdl.rcodes m.consts.length m.codes.length m.codes s).isSome | none => false)) from by rw [← HR.out, Mdl.rokB, HQC.out]; rfl)
 obtain ⟨rb, hrb⟩ : ∃ rb, Trm.rchk m.consts.length m.codes.length false m.body [] 0 (0, []) = rb := ⟨_, rfl⟩
 rw [hrb] at HRD
 have HRB := Lib.hid hrb
 clear hrb
 cases qc with
 | false =>
  have HTX := HT3
  have HRX0 := Lib.hid (show RSt m R 0 false 0 [] from ⟨fun h => (by cases h), fun _ => by rw [HRD.out]; rfl⟩)
  have c6 := HC3.out.box.cell 6 rfl
  have cl := HC3.out.box.lt
  go_upto_region 4 with fail
  clear c6 cl
  clear HRX0
  obtain rfl : R = false := by rw [HRD.out]; rfl
  obtain rfl : E = 5 := by rw [← HE.out]; rfl
  have c3 := HC3.out.box.cell 3 rfl
  have cz := HC3.out.box.free 3
  have cl := HC3.out.box.lt
  go_upto_region 5 with fail
  obtain ⟨W6, hW6⟩ : ∃ W6, W3.setCell ⟨cb, 3, none⟩ (.bool true) = W6 := ⟨_, rfl⟩
  have HC6 := Lib.hid (show RCk W6 (cb + 1) cb (.slice none 0 0) m.consts.length m.codes.length true 0 [] false from hW6 ▸ HC3.out.freed)
  have HT6 := Lib.hid (show Turned (fun b => w.heap.size + 1 ≤ b) W1 W6 from hW6 ▸ HTX.out.next (Turned.set _ _ _ (by dsimp only; omega)))
  rw [hW6]
  clear c3 cz cl hW6
  have HM6 := Lib.hid (HT6.out.box HM1.out (by omega))
  have HBJ := Lib.hid (show Below w.heap.size w W6 from HB1.out.trans (HT6.out.below (fun b hb => by omega) (by omega)))
  have x1 := HM6.out.cell 1 rfl
  have xl := HM6.out.lt
  have c6 := HC6.out.box.cell 6 rfl
  have cl := HC6.out.box.lt
  go_wp2_with fail
  go_loopg [4] lp (fun g i wr => g = lp ∧ i = .int .i64 0 ∧ W6 = wr)
  case atStart => exact ⟨rfl, rfl, rfl⟩
  case round =>
   obtain ⟨hg0, rfl, rfl⟩ := hrel
   clear hg0
   by_cases hjl : 0 < lp
   ·go_wp2_with fail
    go_ret
    exact ⟨rfl, HBJ.out⟩
   ·obtain rfl : lp = 0 := by omega
    go_wp2_with fail
    go_ret
    exact ⟨rfl, HBJ.out⟩
 | true =>
  have c6 := HC3.out.box.cell 6 rfl
  have cl := HC3.out.box.lt
  have m2 := HM3.out.cell 2 rfl
  have m3 := HM3.out.cell 3 rfl
  have m4 := HM3.out.cell 4 rfl
  have m5 := HM3.out.cell 5 rfl
  have ml := HM3.out.lt
  have HBW := Lib.hid (show Below B w W3 from (HB1.out.trans (HB3.out.mono HB1.out.size)).mono hB)
  have hlow := HC3.out.low (H := w.heap.size + 1) (by omega) (by omega)
  have HLO := Lib.hid hlow
  have HTM := Lib.hid (rterm_any m.body _ _ _ _ B (cb + 1) cb (.slice none 0 0) m.consts.length m.codes.length 0 false true [] [] (.slice none 0 0) 0 W3 (TrmR.kept HBW.out _ _ HBODY.out) HC3.out (IntsM.nil _ _) (fun b hb => by have := hlow b hb; omega) (by omega) (by omega) (fun _ => rfl) (fun _ => Nat.le_refl _) (by omega) (by omega) (by omega) (by omega) HS.out.1)
  clear hlow
  go_wp2_with fail
  with_reducible refine HTM.out.mono ?_
  intro e w5 hp5
  obtain ⟨rfl, bs0, hT5, _, hy5, hn5⟩ := hp5
  simp only [↓reduceIte] at hy5 hn5
  rw [HRB.out] at hy5 hn5
  have hrd := HRD.out
  rw [Bool.true_and] at hrd
  obtain ⟨ok0, s0, l0, hc5, hr5⟩ : ∃ ok0 s0 l0, RCk w5 (cb + 1) cb bs0 m.consts.length m.codes.length false s0 l0 ok0 ∧ RSt m R 0 ok0 s0 l0 := by
   cases rb with
   | none =>
    obtain ⟨s', l', h⟩ := hn5 rfl
    exact ⟨false, s', l', h, fun h => (by cases h), fun _ => hrd⟩
   | some s' =>
    obtain ⟨_, he, g3, g4⟩ := Trm.rsay m.body _ _ _ _ _ _ _ rfl HRB.out
    have h1 : 0 ≤ s'.1 := by rw [he]; dsimp only; omega
    have h2 : s'.1 ≤ 20000 := by rw [he]; exact g4
    have h3 : Trm.newB (fun _ => false) s'.2 = true := by rw [he]; exact g3
    exact ⟨true, s'.1, s'.2, hy5 s' rfl, fun _ => ⟨hrd.symm, h3, h1, h2⟩, fun h => (by cases h)⟩
  have HCX := Lib.hid hc5
  have HRX := Lib.hid hr5
  have HTX := Lib.hid (show Turned (fun b => w.heap.size + 1 ≤ b) W1 w5 from HT3.out.next (hT5.wider fun b _ h => HLO.out b h))
  clear hc5 hr5 hT5 hy5 hn5 hrd c6 cl m2 m3 m4 m5 ml HC3 HTM
  have c3 := HCX.out.box.cell 3 rfl
  have cz := HCX.out.box.free 3
  have cl := HCX.out.box.lt
  go_upto_region 5 with fail
  obtain ⟨W6, hW6⟩ : ∃ W6, w5.setCell ⟨cb, 3, none⟩ (.bool true) = W6 := ⟨_, rfl⟩
  have HC6 := Lib.hid (show RCk W6 (cb + 1) cb bs0 m.consts.length m.codes.length true s0 l0 ok0 from hW6 ▸ HCX.out.freed)
  have HT6 := Lib.hid (show Turned (fun b => w.heap.size + 1 ≤ b) W1 W6 from hW6 ▸ HTX.out.next (Turned.set _ _ _ (by dsimp only; omega)))
  rw [hW6]
  clear c3 cz cl hW6
  have HM6 := Lib.hid (HT6.out.box HM1.out (by omega))
  have x1 := HM6.out.cell 1 rfl
  have xl := HM6.out.lt
  go_wp2_with fail
  go_loopg [4] lp (fun g i wr => ∃ (j : Nat) (bs : Value) (ok : Bool) (s : Int) (l : List Int), g = lp - j ∧ j ≤ lp ∧ i = .int .i64 j ∧ Hid (RCk wr (cb + 1) cb bs m.consts.length m.codes.length true s l ok) ∧ Hid (Turned (fun b => w.heap.size + 1 ≤ b) W1 wr) ∧ Hid (RSt m R j ok s l))
  case atStart => exact ⟨0, bs0, ok0, s0, l0, rfl, by omega, rfl, HC6, HT6, HRX⟩
  case round =>
   obtain ⟨j, bs, ok, sj, lj, rfl, hj, rfl, HCJ, HTJ, HRJ⟩ := hrel
   clear x1 xl
   have HMJ := Lib.hid (HTJ.out.box HM1.out (by omega))
   have x1 := HMJ.out.cell 1 rfl
   have xl := HMJ.out.lt
   have c6 := HCJ.out.box.cell 6 rfl
   have cl := HCJ.out.box.lt
   have HBJ := Lib.hid (show Below w.heap.size w wr from HB1.out.trans (HTJ.out.below (fun b hb => by omega) (by omega)))
   cases ok with
   | false =>
    obtain rfl : R = false := HRJ.out.2 rfl
    obtain rfl : E = 5 := by rw [← HE.out]; rfl
    by_cases hjl : j < lp
    ·go_wp2_with fail
     go_ret
     exact ⟨rfl, HBJ.out⟩
    ·go_wp2_with fail
     go_ret
     exact ⟨rfl, HBJ.out⟩
   | true =>
    obtain ⟨r1, r2, r3, r4⟩ := HRJ.out.1 rfl
    have HR1 := Lib.hid r1
    have HR2 := Lib.hid r2
    clear r1 r2
    by_cases hjl : j < lp
    ·obtain ⟨c, hc⟩ : ∃ c, m.codes[j]? = some c := ⟨_, List.getElem?_eq_getElem (by rw [← HLP.out]; exact hjl)⟩
     obtain ⟨tb, toff, cs, hto, htb, hcl, hcell, hcr⟩ := HCOD.out.at (HBJ.out.mono hB) hc
     subst hto
     obtain ⟨ov, lv, cvv, q1, r1, u1, q2, r2, u2, rfl, hsv, hst⟩ := codR_open hcr
     have e0 := hcell 0 _ rfl
     have e1 := hcell 1 _ rfl
     have e2 := hcell 2 _ rfl
     have e3 := hcell 3 _ rfl
     have e4 := hcell 4 _ rfl
     have e5 := hcell 5 _ rfl
     rw [Nat.add_zero] at e0
     have hel := cell_lt e0
     have HC0 := Lib.hid hc
     have HCL0 := Lib.hid (show ∀ i x, ([.slice ov lv cvv, .bool c.rest, .int .i64 c.body.op, .int .i64 c.body.n, .slice q1 r1 u1, .slice q2 r2 u2] : List Value)[i]? = some x → w.cell? ⟨tb, toff + j * 6 + i, none⟩ = some x from fun i x hx => ((HBJ.out.mono hB).cell (p := ⟨tb, toff + j * 6 + i, none⟩) htb).symm.trans (hcell i x hx))
     have HSV := Lib.hid hsv
     have HST := Lib.hid hst
     have HLV := Lib.hid hsv.lens.1
     have HSLM := Lib.hid (HS.out.2 c (List.mem_of_getElem? hc))
     have HAT := Lib.hid (show (if (Trm.newB (fun _ => false) (lj ++ c.v) && (!c.rest || decide (0 < c.v.length))) = true then (match Trm.rchk m.consts.length m.codes.length true c.body c.v 0 (sj, lj ++ c.v) with | some s' => Mdl.rcodes m.consts.length m.codes.length (m.codes.drop (j + 1)) s' | none => none) else none).isSome = R from by rw [← HR1.out, rcodes_at hc])
     have hlowJ := HCJ.out.low (H := w.heap.size + 1) (by omega) (by omega)
     have HLJ := Lib.hid hlowJ
     have hbw : w.heap.size + 1 ≤ wr.heap.size := by have := HTJ.out.size; omega
     have HBD := Lib.hid (rbind_any (cb + 1) cb bs m.consts.length m.codes.length sj true lj c.v ov lv cvv B wr HCJ.out (hsv.kept (HBJ.out.mono hB) fun _ _ _ h => h) (by omega) (fun b hb => by have := hlowJ b hb; omega) ⟨by omega, by have := HCJ.out.box.lt; omega⟩ HR2.out)
     clear hc hcell hcl hcr hsv hst hlowJ
     go_wp2_with fail
     with_reducible refine HBD.out.mono ?_
     intro e w4 hp4
     obtain ⟨rfl, bs4, hT4, hL4, hy4, hn4⟩ := hp4
     obtain ⟨qb, hqb⟩ : ∃ qb, Trm.newB (fun _ => false) (lj ++ c.v) = qb := ⟨_, rfl⟩
     rw [hqb] at hy4 hn4
     obtain ⟨s4, l4, hc4, hs4⟩ : ∃ s4 l4, RCk w4 (cb + 1) cb bs4 m.consts.length m.codes.length true s4 l4 qb ∧ (qb = true → s4 = sj ∧ l4 = lj ++ c.v) := by
      cases qb with
      | true => exact ⟨_, _, hy4 rfl, fun _ => ⟨rfl, rfl⟩⟩
      | false =>
       obtain ⟨s', l', h⟩ := hn4 rfl
       exact ⟨s', l', h, fun h => (by cases h)⟩
     have HQB := Lib.hid hqb
     have HC4 := Lib.hid hc4
     have HSS := Lib.hid hs4
     have HT4 := Lib.hid (show Turned (fun b => w.heap.size + 1 ≤ b) W1 w4 from HTJ.out.next (hT4.wider fun b _ h => HLJ.out b h))
     clear hqb hc4 hs4 hT4 hL4 hy4 hn4 HBD x1 xl c6 cl e0 e1 e2 e3 e4 e5 hel
     have HM4 := Lib.hid (HT4.out.box HM1.out (by omega))
     have HB4 := Lib.hid (show Below w.heap.size w w4 from HB1.out.trans (HT4.out.below (fun b hb => by omega) (by omega)))
     have HBM := Lib.hid (HB4.out.mono hB)
     have hcells : ∀ (wx : World), Below B w wx → ∃ cs, cs = [.slice ov lv cvv, .bool c.rest, .int .i64 c.body.op, .int .i64 c.body.n, .slice q1 r1 u1, .slice q2 r2 u2] ∧ ∀ i x, cs[i]? = some x → wx.cell? ⟨tb, toff + j * 6 + i, none⟩ = some x := fun wx hb => ⟨_, rfl, fun i x hx => (hb.cell (p := ⟨tb, toff + j * 6 + i, none⟩) htb).trans (HCL0.out i x hx)⟩
     have HCE := Lib.hid (show ∀ (wx : World), Below B w wx → wx.cell? ⟨tb, toff + j * 6, none⟩ = some (.slice ov lv cvv) ∧ wx.cell? ⟨tb, toff + j * 6 + 1, none⟩ = some (.bool c.rest) ∧ wx.cell? ⟨tb, toff + j * 6 + 2, none⟩ = some (.int .i64 c.body.op) ∧ wx.cell? ⟨tb, toff + j * 6 + 3, none⟩ = some (.int .i64 c.body.n) ∧ wx.cell? ⟨tb, toff + j * 6 + 4, none⟩ = some (.slice q1 r1 u1) ∧ wx.cell? ⟨tb, toff + j * 6 + 5, none⟩ = some (.slice q2 r2 u2) from fun wx hb => by
      obtain ⟨cs, rfl, h⟩ := hcells wx hb
      exact ⟨h 0 _ rfl, h 1 _ rfl, h 2 _ rfl, h 3 _ rfl, h 4 _ rfl, h 5 _ rfl⟩)
     clear hcells
     obtain ⟨e0, e1, _, _, _, _⟩ := HCE.out w4 HBM.out
     have hel := cell_lt e0
     have x1 := HM4.out.cell 1 rfl
     have xl := HM4.out.lt
     have c6 := HC4.out.box.cell 6 rfl
     have cz := HC4.out.box.free 6
     have cl := HC4.out.box.lt
     cases qb with
     | false =>
      go_upto_region 10 with fail
      obtain ⟨W5, hW5⟩ : ∃ W5, w4.setCell ⟨cb, 6, none⟩ (.bool false) = W5 := ⟨_, rfl⟩
      have HC5 := Lib.hid (hW5 ▸ HC4.out.failed false)
      have HT5 := Lib.hid (show Turned (fun b => w.heap.size + 1 ≤ b) W1 W5 from hW5 ▸ HT4.out.next (Turned.set _ ⟨cb, 6, none⟩ _ (by dsimp only; omega)))
      rw [hW5]
      clear hW5 e0 e1 hel x1 xl c6 cz cl
      have c6 := HC5.out.box.cell 6 rfl
      have cl := HC5.out.box.lt
      obtain rfl : R = false := by
       have h := HAT.out
       rw [HQB.out, Bool.false_and, if_neg (by decide)] at h
       simpa using h.symm
      go_wp2_with fail
      go_roundg (lp - (j + 1))
      case measure => omega
      case rel => exact ⟨j + 1, bs4, false, s4, l4, rfl, by omega, by go_num, HC5, HT5, Lib.hid ⟨fun h => (by cases h), fun _ => rfl⟩⟩
     | true =>
      cases hrs : c.rest with
      | false =>
       rw [hrs] at e1
       have HRS := Lib.hid hrs
       clear hrs
       go_upto_region 10 with fail
       obtain ⟨W5, hW5⟩ : ∃ W5, w4.setCell ⟨cb, 6, none⟩ (.bool true) = W5 := ⟨_, rfl⟩
       have HC5 := Lib.hid (hW5 ▸ HC4.out.failed true)
       have HT5 := Lib.hid (show Turned (fun b => w.heap.size + 1 ≤ b) W1 W5 from hW5 ▸ HT4.out.next (Turned.set _ ⟨cb, 6, none⟩ _ (by dsimp only; omega)))
       rw [hW5]
       clear hW5 e0 e1 hel x1 xl c6 cz cl
       have c6 := HC5.out.box.cell 6 rfl
       have cl := HC5.out.box.lt
       obtain ⟨hse, hle⟩ := HSS.out (by simp)
       have HC6 := HC5
       rw [hse, hle] at HC6
       clear hse hle HC5
       have HRT := Lib.hid (show (match Trm.rchk m.consts.length m.codes.length true c.body c.v 0 (sj, lj ++ c.v) with | some s' => Mdl.rcodes m.consts.length m.codes.length (m.codes.drop (j + 1)) s' | none => none).isSome = R from by
        have h := HAT.out
        rw [HQB.out, HRS.out, if_pos (by simp)] at h
        exact h)
       go_upto_region 11 with fail
       clear c6 cl
       have HB5 := Lib.hid (show Below w.heap.size w W5 from HB1.out.trans (HT5.out.below (fun b hb => by omega) (by omega)))
       have HM5 := Lib.hid (HT5.out.box HM1.out (by omega))
       have HD5 := Lib.hid ((Below.refl W5.heap.size W5).drew)
       have hz5 : w.heap.size + 1 ≤ W5.heap.size := by have := HT5.out.size; omega
       have HTM := Lib.hid (fun (W6 : World) (hb : Below W5.heap.size W5 W6) => rterm_any c.body _ _ _ _ B (cb + 1) cb bs4 m.consts.length m.codes.length sj true true (lj ++ c.v) c.v (.slice ov lv cvv) 0 W6 (TrmR.kept ((HB5.out.mono hB).trans (hb.mono (by omega))) _ _ HST.out) (HC6.out.keep hb) (IntsM.of_low (HSV.out.kept ((HB5.out.mono hB).trans (hb.mono (by omega))) fun _ _ _ h => h) (by have := hb.size; omega) (fun b hs => by have := HC6.out.low (H := w.heap.size + 1) (by omega) (by omega) b hs; omega)) (fun b hs => by have := HC6.out.low (H := w.heap.size + 1) (by omega) (by omega) b hs; omega) (by omega) (by have := HC6.out.box.lt; have := hb.size; omega) (fun _ => HQB.out) (fun _ => by simp) r3 r4 (by omega) (by omega) HSLM.out)
       obtain ⟨e0, e1, e2, e3, e4, e5⟩ := HCE.out W5 (HB5.out.mono hB)
       have hel := cell_lt e0
       refine wp_region_quiet_class (Below W5.heap.size W5) 13 (by kernel_rfl) (by kernel_rfl) HD5.out ?_
       intro T0 _ WW HWW HWW2
       have z1 : ∀ t, (WW t).cell? _ = _ := fun t => ((HWW t).cell (p := ⟨w.heap.size, 1, none⟩) HM5.out.lt).trans (HM5.out.cell 1 rfl)
       have y0 : ∀ t, (WW t).cell? _ = _ := fun t => ((HWW t).cell (p := ⟨tb, toff + j * 6, none⟩) hel).trans e0
       have y2 : ∀ t, (WW t).cell? _ = _ := fun t => ((HWW t).cell (p := ⟨tb, toff + j * 6 + 2, none⟩) hel).trans e2
       have y3 : ∀ t, (WW t).cell? _ = _ := fun t => ((HWW t).cell (p := ⟨tb, toff + j * 6 + 3, none⟩) hel).trans e3
       have y4 : ∀ t, (WW t).cell? _ = _ := fun t => ((HWW t).cell (p := ⟨tb, toff + j * 6 + 4, none⟩) hel).trans e4
       have y5 : ∀ t, (WW t).cell? _ = _ := fun t => ((HWW t).cell (p := ⟨tb, toff + j * 6 + 5, none⟩) hel).trans e5
       have HWH := Lib.hid HWW
       clear HWW HWW2
       simp only [List.take_succ_cons, List.take_zero, List.drop_succ_cons, List.drop_zero]
       repeat (go_big_quiet_step (fail))
       refine wpQuiet_nil ?_
       intro t'
       obtain ⟨W6, hW6⟩ : ∃ W6, WW t' = W6 := ⟨_, rfl⟩
       have HB6 := Lib.hid (show Below W5.heap.size W5 W6 from hW6 ▸ HWH.out t')
       rw [hW6]
       clear z1 y0 y2 y3 y4 y5 HWH hW6 e0 e1 e2 e3 e4 e5 hel
       have HL := Lib.hid (HTM.out W6 HB6.out)
       have HLO := Lib.hid ((HC6.out.keep HB6.out).low (H := w.heap.size + 1) (by omega) (by omega))
       go_wp2_with fail
       with_reducible refine HL.out.mono ?_
       intro e w7 hp7
       obtain ⟨rfl, bs7, hT7, _, hy7, hn7⟩ := hp7
       simp only [↓reduceIte] at hy7 hn7
       have HT7 := Lib.hid (show Turned (fun b => w.heap.size + 1 ≤ b) W1 w7 from (HT5.out.next (Turned.of_below HB6.out)).next (hT7.wider fun b _ h => HLO.out b h))
       obtain ⟨ok7, s7, l7, hc7, hr7⟩ : ∃ ok7 s7 l7, RCk w7 (cb + 1) cb bs7 m.consts.length m.codes.length true s7 l7 ok7 ∧ RSt m R (j + 1) ok7 s7 l7 := by
        have hrt := HRT.out
        cases hrb : Trm.rchk m.consts.length m.codes.length true c.body c.v 0 (sj, lj ++ c.v) with
        | none =>
         rw [hrb] at hn7 hrt
         obtain ⟨s', l', h⟩ := hn7 rfl
         exact ⟨false, s', l', h, fun h => (by cases h), fun _ => hrt.symm⟩
        | some s' =>
         rw [hrb] at hy7 hrt
         obtain ⟨_, he, g3, g4⟩ := Trm.rsay c.body _ _ _ _ _ _ _ HQB.out hrb
         have h1 : 0 ≤ s'.1 := by rw [he]; dsimp only; omega
         have h2 : s'.1 ≤ 20000 := by rw [he]; exact g4
         have h3 : Trm.newB (fun _ => false) s'.2 = true := by rw [he]; exact g3
         exact ⟨true, s'.1, s'.2, hy7 s' rfl, fun _ => ⟨hrt, h3, h1, h2⟩, fun h => (by cases h)⟩
       have HC7 := Lib.hid hc7
       have HR7 := Lib.hid hr7
       clear hc7 hr7 hT7 hy7 hn7 HL HTM
       go_wp2_with fail
       go_roundg (lp - (j + 1))
       case measure => omega
       case rel => exact ⟨j + 1, bs7, ok7, s7, l7, rfl, by omega, by go_num, HC7, HT7, HR7⟩
      | true =>
       rw [hrs] at e1
       have HRS := Lib.hid hrs
       clear hrs
       by_cases hlv0 : 0 < lv
       ·have g0 : decide ((0 : Int) < (lv : Int)) = true := decide_eq_true (by omega)
        go_upto_region 10 with fail
        obtain ⟨W5, hW5⟩ : ∃ W5, w4.setCell ⟨cb, 6, none⟩ (.bool true) = W5 := ⟨_, rfl⟩
        have HC5 := Lib.hid (hW5 ▸ HC4.out.failed true)
        have HT5 := Lib.hid (show Turned (fun b => w.heap.size + 1 ≤ b) W1 W5 from hW5 ▸ HT4.out.next (Turned.set _ ⟨cb, 6, none⟩ _ (by dsimp only; omega)))
        rw [hW5]
        clear hW5 e0 e1 hel x1 xl c6 cz cl
        have c6 := HC5.out.box.cell 6 rfl
        have cl := HC5.out.box.lt
        obtain ⟨hse, hle⟩ := HSS.out (by simp)
        have HC6 := HC5
        rw [hse, hle] at HC6
        clear hse hle HC5
        have HRT := Lib.hid (show (match Trm.rchk m.consts.length m.codes.length true c.body c.v 0 (sj, lj ++ c.v) with | some s' => Mdl.rcodes m.consts.length m.codes.length (m.codes.drop (j + 1)) s' | none => none).isSome = R from by
         have h := HAT.out
         rw [HQB.out, HRS.out, if_pos (by rw [decide_eq_true (by rw [← HLV.out]; exact hlv0)]; rfl)] at h
         exact h)
        go_upto_region 11 with fail
        clear c6 cl
        have HB5 := Lib.hid (show Below w.heap.size w W5 from HB1.out.trans (HT5.out.below (fun b hb => by omega) (by omega)))
        have HM5 := Lib.hid (HT5.out.box HM1.out (by omega))
        have HD5 := Lib.hid ((Below.refl W5.heap.size W5).drew)
        have hz5 : w.heap.size + 1 ≤ W5.heap.size := by have := HT5.out.size; omega
        have HTM := Lib.hid (fun (W6 : World) (hb : Below W5.heap.size W5 W6) => rterm_any c.body _ _ _ _ B (cb + 1) cb bs4 m.consts.length m.codes.length sj true true (lj ++ c.v) c.v (.slice ov lv cvv) 0 W6 (TrmR.kept ((HB5.out.mono hB).trans (hb.mono (by omega))) _ _ HST.out) (HC6.out.keep hb) (IntsM.of_low (HSV.out.kept ((HB5.out.mono hB).trans (hb.mono (by omega))) fun _ _ _ h => h) (by have := hb.size; omega) (fun b hs => by have := HC6.out.low (H := w.heap.size + 1) (by omega) (by omega) b hs; omega)) (fun b hs => by have := HC6.out.low (H := w.heap.size + 1) (by omega) (by omega) b hs; omega) (by omega) (by have := HC6.out.box.lt; have := hb.size; omega) (fun _ => HQB.out) (fun _ => by simp) r3 r4 (by omega) (by omega) HSLM.out)
        obtain ⟨e0, e1, e2, e3, e4, e5⟩ := HCE.out W5 (HB5.out.mono hB)
        have hel := cell_lt e0
        refine wp_region_quiet_class (Below W5.heap.size W5) 13 (by kernel_rfl) (by kernel_rfl) HD5.out ?_
        intro T0 _ WW HWW HWW2
        have z1 : ∀ t, (WW t).cell? _ = _ := fun t => ((HWW t).cell (p := ⟨w.heap.size, 1, none⟩) HM5.out.lt).trans (HM5.out.cell 1 rfl)
        have y0 : ∀ t, (WW t).cell? _ = _ := fun t => ((HWW t).cell (p := ⟨tb, toff + j * 6, none⟩) hel).trans e0
        have y2 : ∀ t, (WW t).cell? _ = _ := fun t => ((HWW t).cell (p := ⟨tb, toff + j * 6 + 2, none⟩) hel).trans e2
        have y3 : ∀ t, (WW t).cell? _ = _ := fun t => ((HWW t).cell (p := ⟨tb, toff + j * 6 + 3, none⟩) hel).trans e3
        have y4 : ∀ t, (WW t).cell? _ = _ := fun t => ((HWW t).cell (p := ⟨tb, toff + j * 6 + 4, none⟩) hel).trans e4
        have y5 : ∀ t, (WW t).cell? _ = _ := fun t => ((HWW t).cell (p := ⟨tb, toff + j * 6 + 5, none⟩) hel).trans e5
        have HWH := Lib.hid HWW
        clear HWW HWW2
        simp only [List.take_succ_cons, List.take_zero, List.drop_succ_cons, List.drop_zero]
        repeat (go_big_quiet_step (fail))
        refine wpQuiet_nil ?_
        intro t'
        obtain ⟨W6, hW6⟩ : ∃ W6, WW t' = W6 := ⟨_, rfl⟩
        have HB6 := Lib.hid (show Below W5.heap.size W5 W6 from hW6 ▸ HWH.out t')
        rw [hW6]
        clear z1 y0 y2 y3 y4 y5 HWH hW6 e0 e1 e2 e3 e4 e5 hel
        have HL := Lib.hid (HTM.out W6 HB6.out)
        have HLO := Lib.hid ((HC6.out.keep HB6.out).low (H := w.heap.size + 1) (by omega) (by omega))
        go_wp2_with fail
        with_reducible refine HL.out.mono ?_
        intro e w7 hp7
        obtain ⟨rfl, bs7, hT7, _, hy7, hn7⟩ := hp7
        simp only [↓reduceIte] at hy7 hn7
        have HT7 := Lib.hid (show Turned (fun b => w.heap.size + 1 ≤ b) W1 w7 from (HT5.out.next (Turned.of_below HB6.out)).next (hT7.wider fun b _ h => HLO.out b h))
        obtain ⟨ok7, s7, l7, hc7, hr7⟩ : ∃ ok7 s7 l7, RCk w7 (cb + 1) cb bs7 m.consts.length m.codes.length true s7 l7 ok7 ∧ RSt m R (j + 1) ok7 s7 l7 := by
         have hrt := HRT.out
         cases hrb : Trm.rchk m.consts.length m.codes.length true c.body c.v 0 (sj, lj ++ c.v) with
         | none =>
          rw [hrb] at hn7 hrt
          obtain ⟨s', l', h⟩ := hn7 rfl
          exact ⟨false, s', l', h, fun h => (by cases h), fun _ => hrt.symm⟩
         | some s' =>
          rw [hrb] at hy7 hrt
          obtain ⟨_, he, g3, g4⟩ := Trm.rsay c.body _ _ _ _ _ _ _ HQB.out hrb
          have h1 : 0 ≤ s'.1 := by rw [he]; dsimp only; omega
          have h2 : s'.1 ≤ 20000 := by rw [he]; exact g4
          have h3 : Trm.newB (fun _ => false) s'.2 = true := by rw [he]; exact g3
          exact ⟨true, s'.1, s'.2, hy7 s' rfl, fun _ => ⟨hrt, h3, h1, h2⟩, fun h => (by cases h)⟩
        have HC7 := Lib.hid hc7
        have HR7 := Lib.hid hr7
        clear hc7 hr7 hT7 hy7 hn7 HL HTM
        go_wp2_with fail
        go_roundg (lp - (j + 1))
        case measure => omega
        case rel => exact ⟨j + 1, bs7, ok7, s7, l7, rfl, by omega, by go_num, HC7, HT7, HR7⟩
       ·have g0 : decide ((0 : Int) < (lv : Int)) = false := decide_eq_false (by omega)
        go_upto_region 10 with fail
        obtain ⟨W5, hW5⟩ : ∃ W5, w4.setCell ⟨cb, 6, none⟩ (.bool false) = W5 := ⟨_, rfl⟩
        have HC5 := Lib.hid (hW5 ▸ HC4.out.failed false)
        have HT5 := Lib.hid (show Turned (fun b => w.heap.size + 1 ≤ b) W1 W5 from hW5 ▸ HT4.out.next (Turned.set _ ⟨cb, 6, none⟩ _ (by dsimp only; omega)))
        rw [hW5]
        clear hW5 e0 e1 hel x1 xl c6 cz cl
        have c6 := HC5.out.box.cell 6 rfl
        have cl := HC5.out.box.lt
        obtain rfl : R = false := by
         have h := HAT.out
         rw [HQB.out, HRS.out, if_neg (by rw [decide_eq_false (by rw [← HLV.out]; exact hlv0)]; decide)] at h
         simpa using h.symm
        go_wp2_with fail
        go_roundg (lp - (j + 1))
        case measure => omega
        case rel => exact ⟨j + 1, bs4, false, s4, l4, rfl, by omega, by go_num, HC5, HT5, Lib.hid ⟨fun h => (by cases h), fun _ => rfl⟩⟩
    ·obtain rfl : j = lp := by omega
     obtain rfl : R = true := by
      rw [← HR1.out, List.drop_eq_nil_of_le (by rw [← HLP.out]; exact Nat.le_refl _), Mdl.rcodes]
      rfl
     obtain rfl : E = 0 := by rw [← HE.out]; rfl
     go_wp2_with fail
     go_ret
     exact ⟨rfl, HBJ.out⟩
end
end Go.Proofs.YtigkhmppnnljiaaGreatDoor

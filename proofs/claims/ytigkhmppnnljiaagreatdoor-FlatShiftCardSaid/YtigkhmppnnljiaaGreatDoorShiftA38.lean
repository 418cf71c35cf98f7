/-
  What the proofs lean on: Awake14, ShP, Shape0, ShC.
-/
import Derived.Test.YtigkhmppnnljiaaGreatDoorShiftA17
import Derived.Test.YtigkhmppnnljiaaGreatDoorShiftA18
import Derived.Test.YtigkhmppnnljiaaGreatDoorShiftA20
import Derived.Test.YtigkhmppnnljiaaGreatDoorShiftA22
import Derived.Test.YtigkhmppnnljiaaGreatDoorShiftA36
import Derived.Test.YtigkhmppnnljiaaGreatDoorShiftA37
namespace Go.Proofs.YtigkhmppnnljiaaGreatDoor
open Go Go.RowKit

/-- The document's example. -/
def mod14 : Mdl := ⟨[datOne], [⟨[0], false, .mk 10 0 [] [.mk 1 0 [] [], .mk 0 0 [] []]⟩], .mk 21 0 [] []⟩
def unit14 : Unt := ⟨[datOne], [⟨1, false, 3, [⟨0, 2, 0, 0, []⟩, ⟨9, 1, 0, 0, [0, 2]⟩, ⟨22, 0, 1, 0, []⟩], []⟩, ⟨0, false, 1, [⟨5, 0, 0, 0, []⟩, ⟨22, 0, 0, 0, []⟩], []⟩]⟩
theorem mkunit14 : mod14.unit Mk.lkL = unit14 := by rfl
theorem mok14 : mod14.okB = true := by decide +kernel
theorem uok14 : unit14.okB = true := by decide +kernel
theorem mfew14 : mod14.fewB 300 = true := by decide +kernel
theorem err14 : mod14.makeErr Mk.lkL = 0 := by rw [Mdl.makeErr, mkunit14, mok14, uok14]; rfl
theorem makeU14 : mod14.makeU Mk.lkL = unit14 := by rw [Mdl.makeU, mkunit14, mok14, uok14]; rfl
theorem no14 : (⟨[], []⟩ : Unt).err = 5 := by rfl
theorem terms_nil (w : World) (B : Nat) : TrmS w B [] (.slice none 0 0) := ⟨none, 0, 0, rfl, rfl, by omega, by omega, rfl, rfl⟩
theorem leaf_any {w : World} {B : Nat} (o n : Int) (ho : -9223372036854775808 ≤ o ∧ o ≤ 9223372036854775807) (hn : -9223372036854775808 ≤ n ∧ n ≤ 9223372036854775807) : TrmR w B (.mk o n [] []) [.int .i64 o, .int .i64 n, .slice none 0 0, .slice none 0 0] :=
  trmR_iff.2 ⟨_, _, rfl, ho, hn, ints_nil w B, terms_nil w B⟩

set_option maxHeartbeats 8000000 in
set_option maxRecDepth 100000 in
theorem awake14_any (w : World) : Calls Tryz.prog 10 #[] w fun e w' => e = .returned (.bool true) ∧ Below w.heap.size w w' := by
  go_enter Tryz.func10, Tryz.ntmps10
  go_upto_region 2 with fail
  obtain ⟨W, hW⟩ : ∃ W, ((((w.alloc (.cells #[.int .i64 0, .int .i64 1, .int .i64 1, .string ⟨#[]⟩, .slice none 0 0] 60)).alloc (.cells #[.int .i64 0] 3)).alloc (.cells #[.int .i64 1, .int .i64 0, .slice none 0 0, .slice none 0 0, .int .i64 0, .int .i64 0, .slice none 0 0, .slice none 0 0] 41)).alloc (.cells #[.slice (some ⟨w.heap.size + 1, 0, none⟩) 1 1, .bool false, .int .i64 10, .int .i64 0, .slice none 0 0, .slice (some ⟨w.heap.size + 1 + 1, 0, none⟩) 2 2] 50)).alloc (.cells #[.slice (some ⟨w.heap.size, 0, none⟩) 1 1, .slice (some ⟨w.heap.size + 1 + 1 + 1, 0, none⟩) 1 1, .int .i64 21, .int .i64 0, .slice none 0 0, .slice none 0 0] 43) = W := ⟨_, rfl⟩
  have HX := Lib.hid (show BoxL W (w.heap.size + 1 + 1 + 1 + 1) 43 [.slice (some ⟨w.heap.size, 0, none⟩) 1 1, .slice (some ⟨w.heap.size + 1 + 1 + 1, 0, none⟩) 1 1, .int .i64 21, .int .i64 0, .slice none 0 0, .slice none 0 0] from by rw [← hW]; exact BoxL.new (by simp) _ _)
  have HM := Lib.hid (show MdlR W W.heap.size mod14 (.agg #[.slice (some ⟨w.heap.size, 0, none⟩) 1 1, .slice (some ⟨w.heap.size + 1 + 1 + 1, 0, none⟩) 1 1, .int .i64 21, .int .i64 0, .slice none 0 0, .slice none 0 0]) from by
    have h0 : BoxL W w.heap.size 60 [.int .i64 0, .int .i64 1, .int .i64 1, .string ⟨#[]⟩, .slice none 0 0] := by rw [← hW]; exact ((((BoxL.new rfl _ _).alloc _).alloc _).alloc _).alloc _
    have h1 : BoxL W (w.heap.size + 1) 3 [.int .i64 0] := by rw [← hW]; exact (((BoxL.new (by simp) _ _).alloc _).alloc _).alloc _
    have h2 : BoxL W (w.heap.size + 1 + 1) 41 [.int .i64 1, .int .i64 0, .slice none 0 0, .slice none 0 0, .int .i64 0, .int .i64 0, .slice none 0 0, .slice none 0 0] := by rw [← hW]; exact ((BoxL.new (by simp) _ _).alloc _).alloc _
    have h3 : BoxL W (w.heap.size + 1 + 1 + 1) 50 [.slice (some ⟨w.heap.size + 1, 0, none⟩) 1 1, .bool false, .int .i64 10, .int .i64 0, .slice none 0 0, .slice (some ⟨w.heap.size + 1 + 1, 0, none⟩) 2 2] := by rw [← hW]; exact (BoxL.new (by simp) _ _).alloc _
    have hv : SlC W W.heap.size 1 IntR [0] (.slice (some ⟨w.heap.size + 1, 0, none⟩) 1 1) := slC_of_box h1 h1.lt ⟨[.int .i64 0], [], rfl, rfl, ⟨rfl, by decide⟩, rfl⟩ rfl (by omega)
    have ht : TrmS W W.heap.size [.mk 1 0 [] [], .mk 0 0 [] []] (.slice (some ⟨w.heap.size + 1 + 1, 0, none⟩) 2 2) := slC_of_box h2 h2.lt ⟨[.int .i64 1, .int .i64 0, .slice none 0 0, .slice none 0 0], _, rfl, rfl, leaf_any 1 0 (by decide) (by decide), [.int .i64 0, .int .i64 0, .slice none 0 0, .slice none 0 0], [], rfl, rfl, leaf_any 0 0 (by decide) (by decide), rfl⟩ rfl (by omega)
    have hb : TrmR W W.heap.size (.mk 10 0 [] [.mk 1 0 [] [], .mk 0 0 [] []]) [.int .i64 10, .int .i64 0, .slice none 0 0, .slice (some ⟨w.heap.size + 1 + 1, 0, none⟩) 2 2] := trmR_iff.2 ⟨_, _, rfl, by decide, by decide, ints_nil _ _, ht⟩
    refine ⟨_, _, _, _, _, _, rfl, repS_heap rfl (by omega) h0 ⟨_, _, _, _, _, [], rfl, rep_leaf 0 1 1 ⟨#[]⟩ (by omega) (by omega) (by omega) (by decide), rfl⟩, ?_, leaf_any 21 0 (by decide) (by decide)⟩
    exact slC_of_box h3 h3.lt ⟨[.slice (some ⟨w.heap.size + 1, 0, none⟩) 1 1, .bool false, .int .i64 10, .int .i64 0, .slice none 0 0, .slice (some ⟨w.heap.size + 1 + 1, 0, none⟩) 2 2], [], rfl, rfl, ⟨_, _, _, _, _, rfl, hv, hb⟩, rfl⟩ rfl (by omega))
  have HWB := Lib.hid (show Below w.heap.size w W from by
    rw [← hW]
    exact ((((Below.one w _).trans ((Below.one _ _).mono (by simp))).trans ((Below.one _ _).mono (by simp; omega))).trans ((Below.one _ _).mono (by simp; omega))).trans ((Below.one _ _).mono (by simp; omega)))
  rw [hW]
  have HC := Lib.hid (fmake_to mod14 _ W.heap.size W HM.out (Nat.le_refl _) 300 (by omega) mfew14)
  rw [err14, makeU14] at HC
  have m0 := HX.out.cell 0 rfl
  have m1 := HX.out.cell 1 rfl
  have m2 := HX.out.cell 2 rfl
  have m3 := HX.out.cell 3 rfl
  have m4 := HX.out.cell 4 rfl
  have m5 := HX.out.cell 5 rfl
  have ml := HX.out.lt
  clear hW
  go_wp2_with fail
  with_reducible refine HC.out.mono ?_
  rintro e w1 ⟨cv, pv, rfl, hu, hb1⟩
  obtain ⟨cv', pv', he, hcv, hpv⟩ := hu
  simp only [Value.agg.injEq, Array.mk.injEq, List.cons.injEq, and_true] at he
  obtain ⟨rfl, rfl⟩ := he
  obtain ⟨o0, l0, c0, rfl, hx0⟩ := hcv
  clear hx0
  obtain ⟨o1, l1, c1, rfl⟩ := hpv.form
  obtain rfl : l1 = 2 := hpv.lens.1
  obtain ⟨b1, off1, cs, ho1, hb1B, hcl, hcell, sl0, al0, rfl, _, _, hsl, hal⟩ := hpv.at (Below.refl _ _) (j := 0) rfl
  subst ho1
  obtain ⟨o2, l2, c2, rfl⟩ := hsl.form
  obtain rfl : l2 = 3 := hsl.lens.1
  obtain ⟨b2, off2, cs, ho2, hb2B, hcl2, hcell2, sl1, rfl, _, _, _, _, hsl1⟩ := hsl.at (Below.refl _ _) (j := 1) rfl
  subst ho2
  obtain ⟨b3, off3, cs, ho3, hb3B, hcl3, hcell3, sl2, rfl, _, _, _, _, hsl2⟩ := hsl.at (Below.refl _ _) (j := 2) rfl
  simp only [Option.some.injEq, Addr.mk.injEq, and_true] at ho3
  obtain ⟨rfl, rfl⟩ := ho3
  have e3 := hcell 3 _ rfl
  have f2 := hcell2 1 _ rfl
  have g2 := hcell3 2 _ rfl
  dsimp only at f2 g2
  rw [Nat.zero_mul, Nat.add_zero] at e3
  have hl3 := cell_lt e3
  have hl4 := cell_lt f2
  have HBE := Lib.hid (Below.next HWB.out hb1)
  have hc1 := hpv.lens.2
  have hc2 := hsl.lens.2
  obtain ⟨W2, hW2⟩ : ∃ W2, w1.alloc (.cells #[.slice o0 l0 c0, .slice (some ⟨b1, off1, none⟩) 2 c1] 25) = W2 := ⟨_, rfl⟩
  have HCK := Lib.hid (fcheck_any ⟨[], []⟩ (.agg #[.slice none 0 0, .slice none 0 0]) W2.heap.size W2 ⟨_, _, rfl, ⟨none, 0, 0, rfl, rfl, by omega, by omega, rfl, rfl⟩, ⟨none, 0, 0, rfl, rfl, by omega, by omega, rfl, rfl⟩⟩ (Nat.le_refl _))
  rw [no14] at HCK
  have HW2 := Lib.hid hW2
  have HB2 := Lib.hid (show Below w1.heap.size w1 W2 from by rw [← hW2]; exact Below.one w1 _)
  have HU := Lib.hid (show BoxL W2 w1.heap.size 25 [.slice o0 l0 c0, .slice (some ⟨b1, off1, none⟩) 2 c1] from by rw [← hW2]; exact BoxL.new rfl _ _)
  have E3 := Lib.hid ((HB2.out.cell hl3).trans e3)
  have F2 := Lib.hid ((HB2.out.cell hl4).trans f2)
  have G2 := Lib.hid ((HB2.out.cell (cell_lt g2)).trans g2)
  clear hpv hcell hcell2 hcell3 hsl hal hsl1 hsl2 hcl hcl2 hcl3 hb1 HC m0 m1 m2 m3 m4 m5 ml e3 f2 g2 hW2
  go_upto_region 3 with fail
  rw [HW2.out]
  have e3 := E3.out
  have f2 := F2.out
  have g2 := G2.out
  have u1 := HU.out.cell 1 rfl
  have ul := HU.out.lt
  go_wp2_with fail
  with_reducible refine HCK.out.mono ?_
  rintro e w3 ⟨rfl, hb3⟩
  have HBF := Lib.hid (Below.next HBE.out (Below.next HB2.out hb3))
  clear hb3 e3 f2 g2 u1 ul
  go_wp2_with fail
  go_ret
  exact ⟨rfl, HBF.out⟩
end Go.Proofs.YtigkhmppnnljiaaGreatDoor

namespace Go.Proofs.YtigkhmppnnljiaaGreatDoor
open Go Go.RowKit

theorem and_mask (x : Int) : 0 ≤ bits .and .i64 x 1023 ∧ bits .and .i64 x 1023 ≤ 1023 := by
  have h : bits .and .i64 x 1023 = wrap64 (((BitVec.ofInt 64 x) &&& (BitVec.ofInt 64 1023)).toNat : Int) := wrap64_is _
  have h2 : ((BitVec.ofInt 64 x) &&& (BitVec.ofInt 64 1023)).toNat ≤ 1023 := by
    rw [BitVec.toNat_and]
    exact Nat.and_le_right
  rw [h]
  unfold wrap64
  omega
theorem rk_inj (k : Int) : ∀ a b, rk k a = rk k b → a = b := by
  intro a b h
  unfold rk at h
  split at h <;> split at h
  · unfold wrap64 at h; omega
  · unfold wrap64 at h; omega
  · unfold wrap64 at h; omega
  · exact h
namespace Mdl
theorem shift_fewC (r : Int → Int) (n : Int) : ∀ (l : List Cod) (s : Int), fewC n (l.map (Cod.shift r)) s = fewC n l s
  | [], s => rfl
  | c :: l, s => by
    have h : (Cod.shift r c).body.all = c.body.all := Trm.shift_all r c.body
    rw [List.map_cons, fewC, fewC, h, shift_fewC r n l]
theorem shift_fewB (r : Int → Int) (m : Mdl) (n : Int) : (m.shift r).fewB n = m.fewB n := by
  have h : (m.shift r).body.all = m.body.all := Trm.shift_all r m.body
  have h2 : (m.shift r).codes = m.codes.map (Cod.shift r) := rfl
  rw [fewB, fewB, h, h2, List.length_map, shift_fewC]
  rfl
end Mdl
end Go.Proofs.YtigkhmppnnljiaaGreatDoor

namespace Go.Proofs.YtigkhmppnnljiaaGreatDoor
open Go Go.RowKit Mdl Live

/-- Of each procedure of a unit that is right: the code that it is of; its piece; its numbers. -/
theorem unit_shape {m : Mdl} (h : m.okB = true) (hu : (m.unit Mk.lkL).okB = true) : (m.unit Mk.lkL).procs.length = m.codes.length + 1 ∧ ∀ (i : Nat) (p : Proc), (m.unit Mk.lkL).procs[i]? = some p →
    ∃ c, m.cods[i]? = some c ∧ p.args = c.v.length ∧ p.rest = c.rest ∧ p.alive = [] ∧ Mk.FragE (argsG c) 0 p.code ∧ p.code ≠ [] ∧ 0 ≤ p.regs ∧ p.regs ≤ 20000 ∧ p.code.length ≤ 50000 := by
  refine ⟨by rw [unit_cods, List.length_map, Mdl.cods, List.length_append]; rfl, fun i p hp => ?_⟩
  obtain ⟨c', hc', hf, hr, ha', hre', hal⟩ := unit_procs h p (List.mem_of_getElem? hp)
  rw [unit_cods, List.getElem?_map] at hp
  obtain ⟨c, hc, rfl⟩ := Option.map_eq_some_iff.1 hp
  have ha : (Mk.proc Mk.lkL c).args = c.v.length := rfl
  have hlen : (c'.v.length : Int) = c.v.length := by rw [← ha', ha]
  have hG : argsG c' = argsG c := by funext r; unfold argsG; rw [hlen]
  rw [hG] at hf
  simp only [Unt.okB, Bool.and_eq_true] at hu
  obtain ⟨h1, h2, h3⟩ := procsB_at hu.2.2.2 (show Mk.proc Mk.lkL c ∈ (m.unit Mk.lkL).procs from by rw [unit_cods]; exact List.mem_map_of_mem (List.mem_of_getElem? hc))
  have hh := h1
  simp only [Unt.headB, Bool.not_eq_true', Bool.or_eq_false_iff, decide_eq_false_iff_not] at hh
  obtain ⟨g1, g2, g3, _, g5, g6⟩ := hh
  exact ⟨c, hc, ha, rfl, rfl, hf, fun e => g5 (by rw [e]; rfl), by omega, by omega, by omega⟩
end Go.Proofs.YtigkhmppnnljiaaGreatDoor

namespace Go.Proofs.YtigkhmppnnljiaaGreatDoor
open Go Go.RowKit

/-- A code's cells read so in every world that keeps these blocks. -/
def CodF (W : World) (K : Nat → Prop) (c : Cod) (cs : List Value) : Prop := ∀ W2 : World, (∀ b, K b → PT W b → b < W.heap.size → W2.heap[b]? = W.heap[b]?) → CodR W2 W.heap.size c cs
theorem CodR.wider {W : World} {B B' : Nat} {c : Cod} {cs : List Value} (hB : B ≤ B') (h : CodR W B c cs) : CodR W B' c cs := by
  obtain ⟨vs, b0, b1, b2, b3, rfl, h1, h2⟩ := h
  exact ⟨vs, b0, b1, b2, b3, rfl, h1.wider hB, TrmR.wider hB _ _ h2⟩
theorem CodF.keep {W W' : World} {K K' : Nat → Prop} {c : Cod} {cs : List Value} (h : CodF W K c cs) (hs : W.heap.size ≤ W'.heap.size) (hK : ∀ b, b < W.heap.size → K b → K' b) (hb : ∀ b, K b → PT W b → b < W.heap.size → W'.heap[b]? = W.heap[b]?) : CodF W' K' c cs := fun W2 h2 =>
  CodR.wider hs (h W2 fun b hk hp hlt => (h2 b (hK b hlt hk) (by unfold PT; rw [hb b hk hp hlt]; exact hp) (Nat.lt_of_lt_of_le hlt hs)).trans (hb b hk hp hlt))
theorem pt_ne {W : World} {b g : Nat} {t : TypeId} (hp : PT W b) (h : ∃ cs f, W.heap[g]? = some (.cells cs t f)) (h1 : t ≠ 3) (h2 : t ≠ 41) : b ≠ g := by
  rintro rfl
  obtain ⟨cs1, t1, f1, h3, h4⟩ := hp
  obtain ⟨cs2, f2, h5⟩ := h
  rw [h3] at h5
  simp only [Option.some.injEq, Obj.cells.injEq] at h5
  obtain ⟨_, rfl, _⟩ := h5
  rcases h4 with h | h
  · exact h1 h
  · exact h2 h
/-- What the outer loop keeps: the new module. -/
structure SL (W5 wr : World) (nb : Nat) (cons csl c0 c1 c2 c3 : Value) (x : Trm) (lc : List Cod) (nc : Nat) : Prop where
  turn : Turned (fun b => W5.heap.size ≤ b) W5 wr
  nlo : W5.heap.size ≤ nb
  box : BoxL wr nb 43 [cons, csl, c0, c1, c2, c3]
  body : TrmF wr (fun b => W5.heap.size ≤ b) x [c0, c1, c2, c3]
  crow : ∃ xs, wr.ownsRow W5.heap.size 50 6 csl nc xs ∧ CellsG 6 (CodF wr (fun b => W5.heap.size ≤ b)) lc xs
  clen : nc = lc.length
theorem SL.keep {W5 wr wi : World} {nb nc : Nat} {cons csl c0 c1 c2 c3 : Value} {x : Trm} {lc : List Cod} (h : SL W5 wr nb cons csl c0 c1 c2 c3 x lc nc) (hb : Below wr.heap.size wr wi) : SL W5 wi nb cons csl c0 c1 c2 c3 x lc nc := by
  obtain ⟨xs, h1, h2⟩ := h.crow
  exact ⟨h.turn.next (Turned.of_below hb), h.nlo, h.box.keep hb, h.body.below hb, ⟨xs, ownsRow_keep h1 hb, h2.mono fun y _ cs hy => hy.keep hb.size (fun _ _ h => h) fun b _ _ hlt => hb.block b hlt⟩, h.clen⟩
theorem SL.form {W5 wr : World} {nb nc : Nat} {cons csl c0 c1 c2 c3 : Value} {x : Trm} {lc : List Cod} (h : SL W5 wr nb cons csl c0 c1 c2 c3 x lc nc) : ∃ o c, csl = .slice o nc c := by
  obtain ⟨xs, hx, _⟩ := h.crow
  rcases hx.2 with ⟨h1, h2⟩ | ⟨g, cap, cur, h1, _⟩
  · exact ⟨none, 0, by rw [h1, h2]⟩
  · exact ⟨_, _, h1⟩
/-- At the start. -/
theorem SL.start {W5 w1 : World} {nb : Nat} {cons c0 c1 c2 c3 : Value} {x : Trm} {z : List Value} (hb : Below W5.heap.size W5 w1) (hn : W5.heap.size ≤ nb) (hx : BoxL w1 nb 43 z) (hz : z.length = 6) (ht : TrmF w1 (fun b => W5.heap.size ≤ b) x [c0, c1, c2, c3]) :
    SL W5 ((((((w1.setCell ⟨nb, 0, none⟩ cons).setCell ⟨nb, 1, none⟩ (.slice none 0 0)).setCell ⟨nb, 2, none⟩ c0).setCell ⟨nb, 3, none⟩ c1).setCell ⟨nb, 4, none⟩ c2).setCell ⟨nb, 5, none⟩ c3) nb cons (.slice none 0 0) c0 c1 c2 c3 x [] 0 := by
  have hS : ∀ (A : World) (i : Nat) (v : Value), Turned (fun b => W5.heap.size ≤ b) A (A.setCell ⟨nb, i, none⟩ v) := fun A i v => Turned.set _ _ _ hn
  have hne : ∀ b, PT w1 b → b ≠ nb := fun b hp => pt_ne hp ⟨_, _, hx⟩ (by decide) (by decide)
  match z, hz with
  | [z0, z1, z2, z3, z4, z5], _ =>
  refine ⟨((((((Turned.of_below hb).next (hS _ _ _)).next (hS _ _ _)).next (hS _ _ _)).next (hS _ _ _)).next (hS _ _ _)).next (hS _ _ _), hn, (((((hx.set 0 _).set 1 _).set 2 _).set 3 _).set 4 _).set 5 _, ht.keep (by simp only [World.size_setCell]; exact Nat.le_refl _) (fun _ _ h => h) (fun b _ hp _ => ?_), ⟨[], World.ownsRow_nil _ _ _ _, rfl⟩, rfl⟩
  have h := hne b hp
  exact (setCell_heap_other _ _ _ h).trans ((setCell_heap_other _ _ _ h).trans ((setCell_heap_other _ _ _ h).trans ((setCell_heap_other _ _ _ h).trans ((setCell_heap_other _ _ _ h).trans (setCell_heap_other _ _ _ h)))))
/-- Behind the append of a code. -/
theorem SL.next {W5 wi w7 : World} {nb nc g cap : Nat} {cons csl c0 c1 c2 c3 : Value} {x : Trm} {lc : List Cod} {xs ys : List Value} {c : Cod} (h : SL W5 wi nb cons csl c0 c1 c2 c3 x lc nc) (ht : Turned (fun b => csl.ownBlock = some b) wi w7) (hr : wi.ownsRow W5.heap.size 50 6 csl nc xs) (hxs : CellsG 6 (CodF wi (fun b => W5.heap.size ≤ b)) lc xs) (hown : w7.ownsRow W5.heap.size 50 6 (.slice (some ⟨g, 0, none⟩) (nc + 1) cap) (nc + 1) (xs ++ ys)) (hy : ys.length = 6) (hc : CodF wi (fun b => W5.heap.size ≤ b) c ys) :
    SL W5 (w7.setCell ⟨nb, 1, none⟩ (.slice (some ⟨g, 0, none⟩) (nc + 1) cap)) nb cons (.slice (some ⟨g, 0, none⟩) (nc + 1) cap) c0 c1 c2 c3 x (lc ++ [c]) (nc + 1) := by
  have hbo := own_base hr
  have hg := own_base hown g rfl
  have hnl := h.nlo
  have hnb : ∀ r, csl.ownBlock = some r → r ≠ nb := fun r hr' e => by
    obtain ⟨cs, f, hq⟩ := own_row hr r hr'
    rw [e, show wi.heap[nb]? = _ from h.box] at hq
    simp at hq
  have hbox := ht.box h.box (fun e => hnb nb e rfl)
  have hgn : g ≠ nb := fun e => by
    obtain ⟨cs, f, hq⟩ := own_row hown g rfl
    rw [e, show w7.heap[nb]? = _ from hbox] at hq
    simp at hq
  have hne : ∀ b, PT wi b → b < wi.heap.size → (w7.setCell ⟨nb, 1, none⟩ (.slice (some ⟨g, 0, none⟩) (nc + 1) cap)).heap[b]? = wi.heap[b]? := fun b hp hlt => by
    have h1 : b ≠ nb := pt_ne hp ⟨_, _, h.box⟩ (by decide) (by decide)
    have h2 : csl.ownBlock ≠ some b := fun e => by
      obtain ⟨cs, f, hq⟩ := own_row hr b e
      exact pt_ne hp ⟨_, _, hq⟩ (by decide) (by decide) rfl
    exact (setCell_heap_other _ _ _ h1).trans (ht.block b hlt h2)
  have hsz : wi.heap.size ≤ (w7.setCell ⟨nb, 1, none⟩ (.slice (some ⟨g, 0, none⟩) (nc + 1) cap)).heap.size := by rw [World.size_setCell]; exact ht.size
  refine ⟨(h.turn.trans ht fun b _ e => hbo b e).next (Turned.set _ _ _ hnl), hnl, hbox.set 1 _, h.body.keep hsz (fun _ _ h => h) fun b _ hp hlt => hne b hp hlt, ⟨xs ++ ys, ownsRow_set hown _ _ (fun r hr' e => hgn (by
    simp only [Value.ownBlock, Option.some.injEq] at hr'
    have e : r = nb := e
    omega)), CellsG.snoc hy (hc.keep hsz (fun _ _ h => h) fun b _ hp hlt => hne b hp hlt) (hxs.mono fun y _ cs hy => hy.keep hsz (fun _ _ h => h) fun b _ hp hlt => hne b hp hlt)⟩, by rw [h.clen]; simp⟩
/-- What the inner loop keeps: the new code. -/
structure XI (wr wi : World) (xb : Nat) (rest : Bool) (vsl c0 c1 c2 c3 : Value) (x : Trm) (lv : List Int) (nv : Nat) : Prop where
  turn : Turned (fun b => wr.heap.size ≤ b) wr wi
  xlo : wr.heap.size ≤ xb
  box : BoxL wi xb 50 [vsl, .bool rest, c0, c1, c2, c3]
  body : TrmF wi (fun b => wr.heap.size ≤ b ∧ vsl.ownBlock ≠ some b) x [c0, c1, c2, c3]
  vrow : wi.ownsRow wr.heap.size 3 1 vsl nv (lv.map (Value.int .i64))
  vlen : nv = lv.length
  ints : ∀ y ∈ lv, I64 y
/-- At a code's start. -/
theorem XI.start {wr w1 : World} {xb : Nat} {rest : Bool} {c0 c1 c2 c3 : Value} {x : Trm} {z : List Value} (hb : Below wr.heap.size wr w1) (hn : wr.heap.size ≤ xb) (hx : BoxL w1 xb 50 z) (hz : z.length = 6) (ht : TrmF w1 (fun b => wr.heap.size ≤ b) x [c0, c1, c2, c3]) :
    XI wr ((((((w1.setCell ⟨xb, 0, none⟩ (.slice none 0 0)).setCell ⟨xb, 1, none⟩ (.bool rest)).setCell ⟨xb, 2, none⟩ c0).setCell ⟨xb, 3, none⟩ c1).setCell ⟨xb, 4, none⟩ c2).setCell ⟨xb, 5, none⟩ c3) xb rest (.slice none 0 0) c0 c1 c2 c3 x [] 0 := by
  have hS : ∀ (A : World) (i : Nat) (v : Value), Turned (fun b => wr.heap.size ≤ b) A (A.setCell ⟨xb, i, none⟩ v) := fun A i v => Turned.set _ _ _ hn
  have hne : ∀ b, PT w1 b → b ≠ xb := fun b hp => pt_ne hp ⟨_, _, hx⟩ (by decide) (by decide)
  match z, hz with
  | [z0, z1, z2, z3, z4, z5], _ =>
  refine ⟨((((((Turned.of_below hb).next (hS _ _ _)).next (hS _ _ _)).next (hS _ _ _)).next (hS _ _ _)).next (hS _ _ _)).next (hS _ _ _), hn, (((((hx.set 0 _).set 1 _).set 2 _).set 3 _).set 4 _).set 5 _, ht.keep (by simp only [World.size_setCell]; exact Nat.le_refl _) (fun b _ h => ⟨h, by simp [Value.ownBlock]⟩) (fun b _ hp _ => ?_), World.ownsRow_nil _ _ _ _, rfl, fun _ h => by simp at h⟩
  have h := hne b hp
  exact (setCell_heap_other _ _ _ h).trans ((setCell_heap_other _ _ _ h).trans ((setCell_heap_other _ _ _ h).trans ((setCell_heap_other _ _ _ h).trans ((setCell_heap_other _ _ _ h).trans (setCell_heap_other _ _ _ h)))))
theorem XI.form {wr wi : World} {xb nv : Nat} {rest : Bool} {vsl c0 c1 c2 c3 : Value} {x : Trm} {lv : List Int} (h : XI wr wi xb rest vsl c0 c1 c2 c3 x lv nv) : ∃ o c, vsl = .slice o nv c := by
  rcases h.vrow.2 with ⟨h1, h2⟩ | ⟨g, cap, cur, h1, _⟩
  · exact ⟨none, 0, by rw [h1, h2]⟩
  · exact ⟨_, _, h1⟩
theorem XI.own {wr wi : World} {xb nv : Nat} {rest : Bool} {vsl c0 c1 c2 c3 : Value} {x : Trm} {lv : List Int} (h : XI wr wi xb rest vsl c0 c1 c2 c3 x lv nv) : vsl.ownBlock ≠ some xb := fun e => by
  obtain ⟨cs, f, hq⟩ := own_row h.vrow xb e
  rw [show wi.heap[xb]? = _ from h.box] at hq
  simp at hq
/-- Behind the append of a variable. -/
theorem XI.next {wr wi w1 : World} {xb nv g cap : Nat} {rest : Bool} {vsl c0 c1 c2 c3 : Value} {x : Trm} {lv : List Int} {y : Int} (h : XI wr wi xb rest vsl c0 c1 c2 c3 x lv nv) (ht : Turned (fun b => vsl.ownBlock = some b) wi w1) (hown : w1.ownsRow wr.heap.size 3 1 (.slice (some ⟨g, 0, none⟩) (nv + 1) cap) (nv + 1) (lv.map (Value.int .i64) ++ ([.int .i64 y] : List Value))) (hlie : vsl.ownBlock = some g ∨ wi.heap.size ≤ g) (hy : I64 y) :
    XI wr (w1.setCell ⟨xb, 0, none⟩ (.slice (some ⟨g, 0, none⟩) (nv + 1) cap)) xb rest (.slice (some ⟨g, 0, none⟩) (nv + 1) cap) c0 c1 c2 c3 x (lv ++ [y]) (nv + 1) := by
  have hbo := own_base h.vrow
  have hxl := h.xlo
  have hbox := ht.box h.box h.own
  have hne : ∀ b, PT wi b → b ≠ xb := fun b hp => pt_ne hp ⟨_, _, h.box⟩ (by decide) (by decide)
  have hgn : g ≠ xb := fun e => by
    obtain ⟨cs, f, hq⟩ := own_row hown g rfl
    rw [e, show w1.heap[xb]? = _ from hbox] at hq
    simp at hq
  refine ⟨(h.turn.trans ht fun b _ e => hbo b e).next (Turned.set _ _ _ hxl), hxl, hbox.set 0 _, h.body.keep (by rw [World.size_setCell]; exact ht.size) (fun b hlt hk => ⟨hk.1, fun e => ?_⟩) (fun b hk hp hlt => (setCell_heap_other _ _ _ (hne b hp)).trans (ht.block b hlt hk.2)), ?_, by rw [h.vlen]; simp, fun z hz => ?_⟩
  · have e : g = b := by simpa [Value.ownBlock] using e
    rcases hlie with h | h
    · exact hk.2 (by rw [h, e])
    · omega
  · rw [List.map_append]
    exact ownsRow_set hown _ _ (fun r hr' e => hgn (by
      simp only [Value.ownBlock, Option.some.injEq] at hr'
      have e : r = xb := e
      omega))
  · rcases List.mem_append.1 hz with hz | hz
    · exact h.ints z hz
    · rw [List.mem_singleton.1 hz]; exact hy
/-- The new code. -/
theorem XI.done {wr wi : World} {xb nv : Nat} {rest : Bool} {vsl c0 c1 c2 c3 : Value} {x : Trm} {lv : List Int} (h : XI wr wi xb rest vsl c0 c1 c2 c3 x lv nv) : CodF wi (fun b => wr.heap.size ≤ b) ⟨lv, rest, x⟩ [vsl, .bool rest, c0, c1, c2, c3] := by
  intro W2 h2
  have hbo := own_base h.vrow
  have hlv : ∀ g, vsl.ownBlock = some g → g < wi.heap.size := fun g hg => by
    obtain ⟨cs, f, hc⟩ := own_row h.vrow g hg
    exact (Array.getElem?_eq_some_iff.1 hc).1
  have hv2 := ownsRow_block (W' := W2) h.vrow (fun g hg => by
    obtain ⟨cs, f, hc⟩ := own_row h.vrow g hg
    exact h2 g (hbo g hg) ⟨cs, _, f, hc, .inl rfl⟩ (hlv g hg))
  exact ⟨vsl, c0, c1, c2, c3, rfl, (rowInts (by rw [← h.vlen]; exact hv2) h.ints).rebound hlv, h.body W2 fun b hk hp hlt => h2 b hk.1 hp hlt⟩
end Go.Proofs.YtigkhmppnnljiaaGreatDoor

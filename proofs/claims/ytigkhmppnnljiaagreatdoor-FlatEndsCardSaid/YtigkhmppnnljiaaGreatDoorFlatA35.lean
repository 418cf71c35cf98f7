/-
  What the proofs lean on: MkT, Awake14, Shape0.
-/
import Derived.Test.YtigkhmppnnljiaaGreatDoorFlatA17
import Derived.Test.YtigkhmppnnljiaaGreatDoorFlatA18
import Derived.Test.YtigkhmppnnljiaaGreatDoorFlatA21
import Derived.Test.YtigkhmppnnljiaaGreatDoorFlatA22
import Derived.Test.YtigkhmppnnljiaaGreatDoorFlatA30
import Derived.Test.YtigkhmppnnljiaaGreatDoorFlatA34
namespace Go.Proofs.YtigkhmppnnljiaaGreatDoor
open Go Go.RowKit

/-- flat.Make, of few terms. -/
theorem fmake_to (m : Mdl) (v : Value) (B : Nat) (w : World) (hv : MdlR w B m v) (hB : B ≤ w.heap.size) (n : Int) (hn : n ≤ 390) (hf : m.fewB n = true) :
    Calls Tryz.prog 15 #[v] w fun e w' => ∃ c p, e = .returned (.tuple #[.agg #[c, p], .int .i64 (m.makeErr Mk.lkL)]) ∧ UntR w' w'.heap.size (m.makeU Mk.lkL) (.agg #[c, p]) ∧ Below w.heap.size w w' := by
  obtain ⟨h1, h2, h3, h4, h5, h6⟩ := Mdl.few_facts hf
  refine fmake_any m v B w hv hB ⟨by omega, by omega⟩ (fun c hc => ?_) fun w' hb => check_any m v B w' (hv.kept (hb.mono hB)) (by have := hb.size; omega) (by unfold Mdl.all; omega) ⟨by omega, fun c hc => by have := h5 c hc; omega⟩ (by omega) _ rfl
  rcases List.mem_append.1 hc with hc | hc
  · have := h5 c hc
    omega
  · rw [List.mem_singleton.1 hc]
    dsimp only
    omega
end Go.Proofs.YtigkhmppnnljiaaGreatDoor

namespace Go.Proofs.YtigkhmppnnljiaaGreatDoor
open Go Go.RowKit

/-- The document's example. -/
def mod14 : Mdl := ⟨[datOne], [⟨[0], false, .mk 10 0 [] [.mk 1 0 [] [], .mk 0 0 [] []]⟩], .mk 21 0 [] []⟩
def unit14 : Unt := ⟨[datOne], [⟨1, false, 3, [⟨0, 2, 0, 0, []⟩, ⟨9, 1, 0, 0, [0, 2]⟩, ⟨22, 0, 1, 0, []⟩], []⟩, ⟨0, false, 1, [⟨5, 0, 0, 0, []⟩, ⟨22, 0, 0, 0, []⟩], []⟩]⟩
theorem mkunit14 : mod14.unit Mk.lkL = unit14 := by rfl
theorem mok14 : mod14.okB = true := by decide +kernel
theorem uok14 : unit14.okB = true := by decide +kernel
theorem mfew14 : mod14.fewB 300 = true := by decide +kernel
theorem err14 : mod14.makeErr Mk.lkL = 0 := by rw [Mdl.makeErr, mkunit14, mok14, uok14]; rfl
theorem makeU14 : mod14.makeU Mk.lkL = unit14 := by rw [Mdl.makeU, mkunit14, mok14, uok14]; rfl
theorem no14 : (⟨[], []⟩ : Unt).err = 5 := by rfl
theorem terms_nil (w : World) (B : Nat) : TrmS w B [] (.slice none 0 0) := ⟨none, 0, 0, rfl, rfl, by omega, by omega, rfl, rfl⟩
theorem leaf_any {w : World} {B : Nat} (o n : Int) (ho : -9223372036854775808 ≤ o ∧ o ≤ 9223372036854775807) (hn : -9223372036854775808 ≤ n ∧ n ≤ 9223372036854775807) : TrmR w B (.mk o n [] []) [.int .i64 o, .int .i64 n, .slice none 0 0, .slice none 0 0] :=
  trmR_iff.2 ⟨_, _, rfl, ho, hn, ints_nil w B, terms_nil w B⟩

set_option maxHeartbeats 8000000 in
set_option maxRecDepth 100000 in
theorem awake14_any (w : World) : Calls Tryz.prog 10 #[] w fun e w' => e = .returned (.bool true) ∧ Below w.heap.size w w' := by
  go_enter Tryz.func10, Tryz.ntmps10
  go_upto_region 2 with fail
  obtain ⟨W, hW⟩ : ∃ W, ((((w.alloc (.cells #[.int .i64 0, .int .i64 1, .int .i64 1, .string ⟨#[]⟩, .slice none 0 0] 60)).alloc (.cells #[.int .i64 0] 3)).alloc (.cells #[.int .i64 1, .int .i64 0, .slice none 0 0, .slice none 0 0, .int .i64 0, .int .i64 0, .slice none 0 0, .slice none 0 0] 41)).alloc (.cells #[.slice (some ⟨w.heap.size + 1, 0, none⟩) 1 1, .bool false, .int .i64 10, .int .i64 0, .slice none 0 0, .slice (some ⟨w.heap.size + 1 + 1, 0, none⟩) 2 2] 50)).alloc (.cells #[.slice (some ⟨w.heap.size, 0, none⟩) 1 1, .slice (some ⟨w.heap.size + 1 + 1 + 1, 0, none⟩) 1 1, .int .i64 21, .int .i64 0, .slice none 0 0, .slice none 0 0] 43) = W := ⟨_, rfl⟩
  have HX := Lib.hid (show BoxL W (w.heap.size + 1 + 1 + 1 + 1) 43 [.slice (some ⟨w.heap.size, 0, none⟩) 1 1, .slice (some ⟨w.heap.size + 1 + 1 + 1, 0, none⟩) 1 1, .int .i64 21, .int .i64 0, .slice none 0 0, .slice none 0 0] from by rw [← hW]; exact BoxL.new (by simp) _ _)
  have HM := Lib.hid (show MdlR W W.heap.size mod14 (.agg #[.slice (some ⟨w.heap.size, 0, none⟩) 1 1, .slice (some ⟨w.heap.size + 1 + 1 + 1, 0, none⟩) 1 1, .int .i64 21, .int .i64 0, .slice none 0 0, .slice none 0 0]) from by
    have h0 : BoxL W w.heap.size 60 [.int .i64 0, .int .i64 1, .int .i64 1, .string ⟨#[]⟩, .slice none 0 0] := by rw [← hW]; exact ((((BoxL.new rfl _ _).alloc _).alloc _).alloc _).alloc _
    have h1 : BoxL W (w.heap.size + 1) 3 [.int .i64 0] := by rw [← hW]; exact (((BoxL.new (by simp) _ _).alloc _).alloc _).alloc _
    have h2 : BoxL W (w.heap.size + 1 + 1) 41 [.int .i64 1, .int .i64 0, .slice none 0 0, .slice none 0 0, .int .i64 0, .int .i64 0, .slice none 0 0, .slice none 0 0] := by rw [← hW]; exact ((BoxL.new (by simp) _ _).alloc _).alloc _
    have h3 : BoxL W (w.heap.size + 1 + 1 + 1) 50 [.slice (some ⟨w.heap.size + 1, 0, none⟩) 1 1, .bool false, .int .i64 10, .int .i64 0, .slice none 0 0, .slice (some ⟨w.heap.size + 1 + 1, 0, none⟩) 2 2] := by rw [← hW]; exact (BoxL.new (by simp) _ _).alloc _
    have hv : SlC W W.heap.size 1 IntR [0] (.slice (some ⟨w.heap.size + 1, 0, none⟩) 1 1) := slC_of_box h1 h1.lt ⟨[.int .i64 0], [], rfl, rfl, ⟨rfl, by decide⟩, rfl⟩ rfl (by omega)
    have ht : TrmS W W.heap.size [.mk 1 0 [] [], .mk 0 0 [] []] (.slice (some ⟨w.heap.size + 1 + 1, 0, none⟩) 2 2) := slC_of_box h2 h2.lt ⟨[.int .i64 1, .int .i64 0, .slice none 0 0, .slice none 0 0], _, rfl, rfl, leaf_any 1 0 (by decide) (by decide), [.int .i64 0, .int .i64 0, .slice none 0 0, .slice none 0 0], [], rfl, rfl, leaf_any 0 0 (by decide) (by decide), rfl⟩ rfl (by omega)
    have hb : TrmR W W.heap.size (.mk 10 0 [] [.mk 1 0 [] [], .mk 0 0 [] []]) [.int .i64 10, .int .i64 0, .slice none 0 0, .slice (some ⟨w.heap.size + 1 + 1, 0, none⟩) 2 2] := trmR_iff.2 ⟨_, _, rfl, by decide, by decide, ints_nil _ _, ht⟩
    refine ⟨_, _, _, _, _, _, rfl, repS_heap rfl (by omega) h0 ⟨_, _, _, _, _, [], rfl, rep_leaf 0 1 1 ⟨#[]⟩ (by omega) (by omega) (by omega) (by decide), rfl⟩, ?_, leaf_any 21 0 (by decide) (by decide)⟩
    exact slC_of_box h3 h3.lt ⟨[.slice (some ⟨w.heap.size + 1, 0, none⟩) 1 1, .bool false, .int .i64 10, .int .i64 0, .slice none 0 0, .slice (some ⟨w.heap.size + 1 + 1, 0, none⟩) 2 2], [], rfl, rfl, ⟨_, _, _, _, _, rfl, hv, hb⟩, rfl⟩ rfl (by omega))
  have HWB := Lib.hid (show Below w.heap.size w W from by
    rw [← hW]
    exact ((((Below.one w _).trans ((Below.one _ _).mono (by simp))).trans ((Below.one _ _).mono (by simp; omega))).trans ((Below.one _ _).mono (by simp; omega))).trans ((Below.one _ _).mono (by simp; omega)))
  rw [hW]
  have HC := Lib.hid (fmake_to mod14 _ W.heap.size W HM.out (Nat.le_refl _) 300 (by omega) mfew14)
  rw [err14, makeU14] at HC
  have m0 := HX.out.cell 0 rfl
  have m1 := HX.out.cell 1 rfl
  have m2 := HX.out.cell 2 rfl
  have m3 := HX.out.cell 3 rfl
  have m4 := HX.out.cell 4 rfl
  have m5 := HX.out.cell 5 rfl
  have ml := HX.out.lt
  clear hW
  go_wp2_with fail
  with_reducible refine HC.out.mono ?_
  rintro e w1 ⟨cv, pv, rfl, hu, hb1⟩
  obtain ⟨cv', pv', he, hcv, hpv⟩ := hu
  simp only [Value.agg.injEq, Array.mk.injEq, List.cons.injEq, and_true] at he
  obtain ⟨rfl, rfl⟩ := he
  obtain ⟨o0, l0, c0, rfl, hx0⟩ := hcv
  clear hx0
  obtain ⟨o1, l1, c1, rfl⟩ := hpv.form
  obtain rfl : l1 = 2 := hpv.lens.1
  obtain ⟨b1, off1, cs, ho1, hb1B, hcl, hcell, sl0, al0, rfl, _, _, hsl, hal⟩ := hpv.at (Below.refl _ _) (j := 0) rfl
  subst ho1
  obtain ⟨o2, l2, c2, rfl⟩ := hsl.form
  obtain rfl : l2 = 3 := hsl.lens.1
  obtain ⟨b2, off2, cs, ho2, hb2B, hcl2, hcell2, sl1, rfl, _, _, _, _, hsl1⟩ := hsl.at (Below.refl _ _) (j := 1) rfl
  subst ho2
  obtain ⟨b3, off3, cs, ho3, hb3B, hcl3, hcell3, sl2, rfl, _, _, _, _, hsl2⟩ := hsl.at (Below.refl _ _) (j := 2) rfl
  simp only [Option.some.injEq, Addr.mk.injEq, and_true] at ho3
  obtain ⟨rfl, rfl⟩ := ho3
  have e3 := hcell 3 _ rfl
  have f2 := hcell2 1 _ rfl
  have g2 := hcell3 2 _ rfl
  dsimp only at f2 g2
  rw [Nat.zero_mul, Nat.add_zero] at e3
  have hl3 := cell_lt e3
  have hl4 := cell_lt f2
  have HBE := Lib.hid (Below.next HWB.out hb1)
  have hc1 := hpv.lens.2
  have hc2 := hsl.lens.2
  obtain ⟨W2, hW2⟩ : ∃ W2, w1.alloc (.cells #[.slice o0 l0 c0, .slice (some ⟨b1, off1, none⟩) 2 c1] 25) = W2 := ⟨_, rfl⟩
  have HCK := Lib.hid (fcheck_any ⟨[], []⟩ (.agg #[.slice none 0 0, .slice none 0 0]) W2.heap.size W2 ⟨_, _, rfl, ⟨none, 0, 0, rfl, rfl, by omega, by omega, rfl, rfl⟩, ⟨none, 0, 0, rfl, rfl, by omega, by omega, rfl, rfl⟩⟩ (Nat.le_refl _))
  rw [no14] at HCK
  have HW2 := Lib.hid hW2
  have HB2 := Lib.hid (show Below w1.heap.size w1 W2 from by rw [← hW2]; exact Below.one w1 _)
  have HU := Lib.hid (show BoxL W2 w1.heap.size 25 [.slice o0 l0 c0, .slice (some ⟨b1, off1, none⟩) 2 c1] from by rw [← hW2]; exact BoxL.new rfl _ _)
  have E3 := Lib.hid ((HB2.out.cell hl3).trans e3)
  have F2 := Lib.hid ((HB2.out.cell hl4).trans f2)
  have G2 := Lib.hid ((HB2.out.cell (cell_lt g2)).trans g2)
  clear hpv hcell hcell2 hcell3 hsl hal hsl1 hsl2 hcl hcl2 hcl3 hb1 HC m0 m1 m2 m3 m4 m5 ml e3 f2 g2 hW2
  go_upto_region 3 with fail
  rw [HW2.out]
  have e3 := E3.out
  have f2 := F2.out
  have g2 := G2.out
  have u1 := HU.out.cell 1 rfl
  have ul := HU.out.lt
  go_wp2_with fail
  with_reducible refine HCK.out.mono ?_
  rintro e w3 ⟨rfl, hb3⟩
  have HBF := Lib.hid (Below.next HBE.out (Below.next HB2.out hb3))
  clear hb3 e3 f2 g2 u1 ul
  go_wp2_with fail
  go_ret
  exact ⟨rfl, HBF.out⟩
end Go.Proofs.YtigkhmppnnljiaaGreatDoor

namespace Go.Proofs.YtigkhmppnnljiaaGreatDoor
open Go Go.RowKit Mdl Live

/-- Of each procedure of a unit that is right: the code that it is of; its piece; its numbers. -/
theorem unit_shape {m : Mdl} (h : m.okB = true) (hu : (m.unit Mk.lkL).okB = true) : (m.unit Mk.lkL).procs.length = m.codes.length + 1 ∧ ∀ (i : Nat) (p : Proc), (m.unit Mk.lkL).procs[i]? = some p →
    ∃ c, m.cods[i]? = some c ∧ p.args = c.v.length ∧ p.rest = c.rest ∧ p.alive = [] ∧ Mk.FragE (argsG c) 0 p.code ∧ p.code ≠ [] ∧ 0 ≤ p.regs ∧ p.regs ≤ 20000 ∧ p.code.length ≤ 50000 := by
  refine ⟨by rw [unit_cods, List.length_map, Mdl.cods, List.length_append]; rfl, fun i p hp => ?_⟩
  obtain ⟨c', hc', hf, hr, ha', hre', hal⟩ := unit_procs h p (List.mem_of_getElem? hp)
  rw [unit_cods, List.getElem?_map] at hp
  obtain ⟨c, hc, rfl⟩ := Option.map_eq_some_iff.1 hp
  have ha : (Mk.proc Mk.lkL c).args = c.v.length := rfl
  have hlen : (c'.v.length : Int) = c.v.length := by rw [← ha', ha]
  have hG : argsG c' = argsG c := by funext r; unfold argsG; rw [hlen]
  rw [hG] at hf
  simp only [Unt.okB, Bool.and_eq_true] at hu
  obtain ⟨h1, h2, h3⟩ := procsB_at hu.2.2.2 (show Mk.proc Mk.lkL c ∈ (m.unit Mk.lkL).procs from by rw [unit_cods]; exact List.mem_map_of_mem (List.mem_of_getElem? hc))
  have hh := h1
  simp only [Unt.headB, Bool.not_eq_true', Bool.or_eq_false_iff, decide_eq_false_iff_not] at hh
  obtain ⟨g1, g2, g3, _, g5, g6⟩ := hh
  exact ⟨c, hc, ha, rfl, rfl, hf, fun e => g5 (by rw [e]; rfl), by omega, by omega, by omega⟩
/-- .. and of its instructions. -/
theorem unit_ins {m : Mdl} (hu : (m.unit Mk.lkL).okB = true) {p : Proc} (hp : p ∈ (m.unit Mk.lkL).procs) : p.args ≤ p.regs ∧ ∀ x ∈ p.code, (0 ≤ x.op ∧ x.op ≤ 22) ∧ ∀ r ∈ Unt.named x, 0 ≤ r ∧ r < p.regs := by
  simp only [Unt.okB, Bool.and_eq_true] at hu
  obtain ⟨h1, h2, h3⟩ := procsB_at hu.2.2.2 hp
  simp only [Unt.headB, Bool.not_eq_true', Bool.or_eq_false_iff, decide_eq_false_iff_not] at h1
  obtain ⟨g1, g2, _⟩ := h1
  refine ⟨by omega, fun x hx => ?_⟩
  have h := h3 x hx
  rw [← Unt.ins_fits x _ _ _ _ (by omega), Unt.ins] at h
  simp only [Bool.and_eq_true, Unt.isOp, decide_eq_true_eq] at h
  refine ⟨h.1, fun r hr => ?_⟩
  have := List.all_eq_true.1 h.2.2.1 r hr
  simpa [Unt.below] using this
theorem cods_at {m : Mdl} {i : Nat} {c x : Cod} (h : m.cods[i]? = some c) (hx : m.codes[i]? = some x) : x = c := by
  have hi := (List.getElem?_eq_some_iff.1 hx).1
  rw [Mdl.cods, List.getElem?_append_left hi, hx] at h
  exact Option.some.inj h
theorem cods_last {m : Mdl} {c : Cod} (h : m.cods[m.codes.length]? = some c) : c.v = [] ∧ c.rest = false := by
  rw [Mdl.cods, List.getElem?_append_right (Nat.le_refl _), Nat.sub_self] at h
  obtain rfl : _ = c := Option.some.inj h
  exact ⟨rfl, rfl⟩
end Go.Proofs.YtigkhmppnnljiaaGreatDoor

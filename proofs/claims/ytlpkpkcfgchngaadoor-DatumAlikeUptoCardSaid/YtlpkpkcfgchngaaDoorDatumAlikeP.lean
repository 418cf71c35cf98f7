/-
  DatumAlike: for every input of bulk at most 1048576 the law returns true, and its arguments read behind the call as they read before; the listed variables of Go's library start as the program's text lays them (the card ties them).
-/
import Derived.Test.YtlpkpkcfgchngaaDoorCards
import Derived.Test.YtlpkpkcfgchngaaDoorTie
import Derived.Test.YtlpkpkcfgchngaaDoorDoor
import Derived.Test.YtlpkpkcfgchngaaDoorAlikeW
import Derived.Test.YtlpkpkcfgchngaaDoorBulk
import Derived.Test.YtlpkpkcfgchngaaDoorOpen
namespace Go.Proofs.YtlpkpkcfgchngaaDoor.datumAlike
open Go.ChangeShapes Go.WideShapes Go.ChangeAt Go.RowKit
open Go.ChangeMaps (open_string)

theorem env {W : World} (h : laidMetH Tryd.prog Rows.datumAlikeUptoRow.laid W) : Env W := by
  rw [MakeChecks.laidMetH_plain _ _ _ (by kernel_rfl)] at h
  first
    | exact env_of_head h
    | exact env_of_head (laidMet.tail h)
    | exact env_of_head (laidMet.tail (laidMet.tail h))
    | exact env_of_head (laidMet.tail (laidMet.tail (laidMet.tail h)))
    | exact env_of_head (laidMet.tail (laidMet.tail (laidMet.tail (laidMet.tail h))))

theorem laid_met (os : Os) (args : Array Value) : laidMetH Tryd.prog Rows.datumAlikeUptoRow.laid ((laidWorld os).forCall (fun _ _ => 0) ⟨#[], args, []⟩).memory :=
  laidMetH_of_parts3 (fuel := 8) (laidMet_of_run' 8 (by kernel_rfl) (by kernel_rfl)) (by kernel_rfl) (by kernel_rfl)

theorem witness_row (os : Os) {H : Type} (enc : TypeId × Value → H) :
    (Rows.OpenSpec.upto Rows.datumAlikeSpec).preRow enc Tryd.prog Tryd.f5 Rows.datumAlikeUptoRow.domain false Rows.datumAlikeUptoRow.laid ((laidWorld os).forCall (fun _ _ => 0) ⟨#[], #[.agg #[.int .i64 0, .int .i64 0, .int .i64 0, .string ⟨#[]⟩, .slice none 0 0], .agg #[.int .i64 0, .int .i64 0, .int .i64 0, .string ⟨#[]⟩, .slice none 0 0]], []⟩).memory #[.agg #[.int .i64 0, .int .i64 0, .int .i64 0, .string ⟨#[]⟩, .slice none 0 0], .agg #[.int .i64 0, .int .i64 0, .int .i64 0, .string ⟨#[]⟩, .slice none 0 0]] := by
  have hw : (DataW.whole enc Tryd.prog ((laidWorld os).forCall (fun _ _ => 0) ⟨#[], #[.agg #[.int .i64 0, .int .i64 0, .int .i64 0, .string ⟨#[]⟩, .slice none 0 0], .agg #[.int .i64 0, .int .i64 0, .int .i64 0, .string ⟨#[]⟩, .slice none 0 0]], []⟩).memory Tryd.f5.params.toList Rows.datumAlikeSpec.vars false (#[.agg #[.int .i64 0, .int .i64 0, .int .i64 0, .string ⟨#[]⟩, .slice none 0 0], .agg #[.int .i64 0, .int .i64 0, .int .i64 0, .string ⟨#[]⟩, .slice none 0 0]] : Array Value).toList 8).map (fun x => (x.1, x.2.1)) =
      some ([.agg [.lit (.int .i64 0), .lit (.int .i64 0), .lit (.int .i64 0), .lit (.string []), .nil], .agg [.lit (.int .i64 0), .lit (.int .i64 0), .lit (.int .i64 0), .lit (.string []), .nil]], []) := by kernel_rfl
  obtain ⟨⟨x1, x2, x3⟩, hx, hx1⟩ := Option.map_eq_some_iff.1 hw
  simp only [Prod.mk.injEq] at hx1
  obtain ⟨rfl, rfl⟩ := hx1
  exact OpenSpec.preRow_of_cond 8 hx (by kernel_rfl) (fun k hk => by cases hk; kernel_rfl) (by kernel_rfl) (laid_met os _)

set_option maxRecDepth 100000 in
set_option maxHeartbeats 2000000 in
theorem lifted (os : Os) (started : os.Started) (H : Type) (enc : TypeId × Value → H) (F : Stop.Interp) :
    ReturnsInHanded {} Tryd.checked os 5 .any ((Rows.OpenSpec.upto Rows.datumAlikeSpec).preRow enc Tryd.prog Tryd.f5 Rows.datumAlikeUptoRow.domain false Rows.datumAlikeUptoRow.laid) (((Rows.OpenSpec.upto Rows.datumAlikeSpec).at F).post enc Tryd.prog Tryd.f5 false true false false) := by
  refine returnsInHanded_of_row (C := Tryd.checked) (s := (Rows.OpenSpec.upto Rows.datumAlikeSpec)) own started (by kernel_rfl) Tryd.func5
    (witness_row_atRef (enc := enc) (C := Tryd.checked) false (laidWorld os) #[.agg #[.int .i64 0, .int .i64 0, .int .i64 0, .string ⟨#[]⟩, .slice none 0 0], .agg #[.int .i64 0, .int .i64 0, .int .i64 0, .string ⟨#[]⟩, .slice none 0 0]] rfl (by kernel_rfl) (by kernel_rfl) (by kernel_rfl) (witness_row os enc)) ?_
  intro W base args ds gs before hval0 hW _ hcond hsz hL hshape _
  have hE := env hL
  have hval : ∀ (j : Nat) t v, Tryd.f5.params[j]? = some t → args[j]? = some v → Value.okWide Tryd.prog W .any base t v := hval0
  have hW' := hW
  obtain ⟨p, q, hA0, hV, rfl, hfz, hnd⟩ := hW
  have hA : DataW.TrodAll enc Tryd.prog W 0 (fun _ => true) true Tryd.f5.params.toList args.toList ds p := hA0
  rw [Tryd.params5] at hA hval
  obtain ⟨v0, vs0, d0, ds0, p0, q0, hargs, rfl, rfl, h0, r0⟩ := trodAll_cons hA
  obtain ⟨v1, vs1, d1, ds1, p1, q1, rfl, rfl, rfl, h1, r1⟩ := trodAll_cons r0
  obtain ⟨rfl, rfl, rfl⟩ := trodAll_nil r1
  obtain rfl : args = #[v0, v1] := by cases args; simp_all
  obtain ⟨rfl, rfl⟩ := trodVars_none hV
  have hw0 := weights_at hsz 0 rfl rfl
  obtain ⟨x0, hr0, hb0⟩ := open_datumB (hval 0 24 v0 rfl rfl) h0 hw0
  have hw1 := weights_at hsz 1 rfl rfl
  obtain ⟨x1, hr1, hb1⟩ := open_datumB (hval 1 24 v1 rfl rfl) h1 hw1
  have hbk := bulk_bound (hcond _ rfl)
  simp only [List.cons_append, List.nil_append, List.append_nil, Rows.uptoBulkAll] at hbk
  have tl0 := Dat.text_len x0 false
  have tl1 := Dat.text_len x1 false
  clear hA0 hval0
  refine (datumAlike_walk x0 x1 v0 v1 W hr0 hr1 hE (by omega) (by omega)).mono fun e W' ⟨he, hb⟩ => ⟨_, he, ?_⟩
  have hW2 : DataW.Whole enc Tryd.prog Tryd.f5.params.toList Rows.datumAlikeSpec.vars false W _ _ _ _ := hW'
  exact law_post hW2 rfl hb laid (by kernel_rfl) rfl Tryd.underlying4 rfl

theorem said : Rows.DatumAlikeUptoSaid :=
  OpenClaim.holds_of_cond 5 Tryd.f5 rfl rfl rfl rfl rfl rfl rfl ⟨rfl, rfl, rfl, rfl, rfl⟩ rfl rfl rfl rfl rfl (by kernel_rfl) Tryd.func5 (by kernel_rfl)
    (of_decide_eq_true (by kernel_rfl)) (by unfold Func.isWrapper; first | (rw [if_pos (by decide +kernel)]; kernel_rfl) | (rw [if_neg (by decide +kernel)]; exact ⟨rfl, rfl⟩))
    (fun os started H enc _ F => by rw [OpenClaim.pre_eq_preRow]; exact lifted os started H enc F)

theorem plain (f : FuncId) (fn : Func) (hf : Tryd.pinned.checked.prog.funcNamed "corbel/corbellaw02.DatumAlike" = some f) (hfn : Tryd.pinned.checked.prog.funcs[f]? = some fn) :
    true = Tryd.pinned.checked.prog.looks [] ∧ ∀ (j : Nat) t, fn.params[j]? = some t → Tryd.pinned.checked.prog.wantsStandIn t = false := by
  obtain rfl : f = 5 := Option.some.inj ((show Tryd.prog.funcNamed "corbel/corbellaw02.DatumAlike" = some 5 by kernel_rfl).symm.trans hf) |>.symm
  obtain rfl : fn = Tryd.f5 := (Option.some.inj (Tryd.func5.symm.trans hfn)).symm
  refine ⟨by kernel_rfl, fun j t ht => ?_⟩
  rw [Tryd.params5] at ht
  have hm : t ∈ [24, 24] := by simpa using Array.mem_of_getElem? ht
  have hall : ([24, 24].all fun u => !Tryd.prog.wantsStandIn u) = true := by kernel_rfl
  exact (show Tryd.prog.wantsStandIn t = false by simpa using List.all_eq_true.1 hall t hm)

/-- THE CARD. -/
theorem proved : Rows.DatumAlikeUptoCardSaid :=
  Claim7.holds_tied_plain_at .later [] _ _ _ _ said (fun _ h => by cases h) (by kernel_rfl) (fun _ h => by cases h) datumAlikeUpto_row_tie rfl ⟨rfl, rfl⟩ (by kernel_rfl) rfl plain (by kernel_rfl)
#print axioms proved
end Go.Proofs.YtlpkpkcfgchngaaDoor.datumAlike

/-
  FoldRests: for every input of bulk at most 1048576 the law returns true, and its arguments read behind the call as they read before; the listed variables of Go's library start as the program's text lays them (the card ties them).
-/
import Derived.Test.YtgbibibmpoekiaaGreatDoorCards
import Derived.Test.YtgbibibmpoekiaaGreatDoorTie
import Derived.Test.YtgbibibmpoekiaaGreatDoorFolA07
import Derived.Test.YtgbibibmpoekiaaGreatDoorFolA16
import Derived.Test.YtgbibibmpoekiaaGreatDoorFoldRestsB01
namespace Go.Proofs.YtgbibibmpoekiaaGreatDoor.foldRests
open Go.ChangeShapes Go.WideShapes Go.ChangeAt Go.RowKit
open Go.ChangeMaps (open_string)

theorem env {W : World} (h : laidMetH Tryz.prog Rows.foldRestsUptoRow.laid W) : Env W := by
  rw [MakeChecks.laidMetH_plain _ _ _ (by kernel_rfl)] at h
  first
    | exact env_of_head h
    | exact env_of_head (laidMet.tail h)
    | exact env_of_head (laidMet.tail (laidMet.tail h))
    | exact env_of_head (laidMet.tail (laidMet.tail (laidMet.tail h)))
    | exact env_of_head (laidMet.tail (laidMet.tail (laidMet.tail (laidMet.tail h))))

theorem laid_met (os : Os) (args : Array Value) : laidMetH Tryz.prog Rows.foldRestsUptoRow.laid ((laidWorld os).forCall (fun _ _ => 0) ⟨#[], args, []⟩).memory :=
  laidMetH_of_parts3 (fuel := 8) (laidMet_of_run' 8 (by kernel_rfl) (by kernel_rfl)) (by kernel_rfl) (by kernel_rfl)

theorem witness_row (os : Os) {H : Type} (enc : TypeId × Value → H) :
    (Rows.OpenSpec.upto Rows.foldRestsSpec).preRow enc Tryz.prog Tryz.f4 Rows.foldRestsUptoRow.domain false Rows.foldRestsUptoRow.laid ((laidWorld os).forCall (fun _ _ => 0) ⟨#[], #[.agg #[.slice none 0 0, .int .i64 0, .int .i64 0, .slice none 0 0, .slice none 0 0]], []⟩).memory #[.agg #[.slice none 0 0, .int .i64 0, .int .i64 0, .slice none 0 0, .slice none 0 0]] := by
  have hw : (DataW.whole enc Tryz.prog ((laidWorld os).forCall (fun _ _ => 0) ⟨#[], #[.agg #[.slice none 0 0, .int .i64 0, .int .i64 0, .slice none 0 0, .slice none 0 0]], []⟩).memory Tryz.f4.params.toList Rows.foldRestsSpec.vars false (#[.agg #[.slice none 0 0, .int .i64 0, .int .i64 0, .slice none 0 0, .slice none 0 0]] : Array Value).toList 8).map (fun x => (x.1, x.2.1)) =
      some ([.agg [.nil, .agg [.lit (.int .i64 0), .lit (.int .i64 0), .nil, .nil]]], []) := by kernel_rfl
  obtain ⟨⟨x1, x2, x3⟩, hx, hx1⟩ := Option.map_eq_some_iff.1 hw
  simp only [Prod.mk.injEq] at hx1
  obtain ⟨rfl, rfl⟩ := hx1
  exact OpenSpec.preRow_of_cond 8 hx (by kernel_rfl) (fun k hk => by cases hk; kernel_rfl) (by kernel_rfl) (laid_met os _)

set_option maxRecDepth 100000 in
set_option maxHeartbeats 2000000 in
theorem lifted (os : Os) (started : os.Started) (H : Type) (enc : TypeId × Value → H) (F : Stop.Interp) :
    ReturnsInHanded {} Tryz.checked os 4 .any ((Rows.OpenSpec.upto Rows.foldRestsSpec).preRow enc Tryz.prog Tryz.f4 Rows.foldRestsUptoRow.domain false Rows.foldRestsUptoRow.laid) (((Rows.OpenSpec.upto Rows.foldRestsSpec).at F).post enc Tryz.prog Tryz.f4 false true false false) := by
  refine returnsInHanded_of_row (C := Tryz.checked) (s := (Rows.OpenSpec.upto Rows.foldRestsSpec)) own started (by kernel_rfl) Tryz.func4
    (witness_row_atRef (enc := enc) (C := Tryz.checked) false (laidWorld os) #[.agg #[.slice none 0 0, .int .i64 0, .int .i64 0, .slice none 0 0, .slice none 0 0]] rfl (by kernel_rfl) (by kernel_rfl) (by kernel_rfl) (witness_row os enc)) ?_
  intro W base args ds gs before hval0 hW _ hcond hsz hL hshape _
  have hE := env hL
  have hval : ∀ (j : Nat) t v, Tryz.f4.params[j]? = some t → args[j]? = some v → Value.okWide Tryz.prog W .any base t v := hval0
  have hW' := hW
  obtain ⟨p, q, hA0, hV, rfl, hfz, hnd⟩ := hW
  have hA : DataW.TrodAll enc Tryz.prog W 0 (fun _ => true) true Tryz.f4.params.toList args.toList ds p := hA0
  rw [Tryz.params4] at hA hval
  obtain ⟨v0, vs0, d0, ds0, p0, q0, hargs, rfl, rfl, h0, r0⟩ := trodAll_cons hA
  obtain ⟨rfl, rfl, rfl⟩ := trodAll_nil r0
  obtain rfl : args = #[v0] := by cases args; simp_all
  obtain ⟨rfl, rfl⟩ := trodVars_none hV
  have hw0 := weights_at hsz 0 rfl rfl
  obtain ⟨cs0, x0, cc0, a0, b0, c0, e0, rfl, hr0, ht0, hb0⟩ := open_programB (hval 0 28 v0 rfl rfl) h0 hw0
  have hbk := bulk_bound (hcond _ rfl)
  simp only [List.append_nil, Rows.uptoBulkAll] at hbk
  clear hA0 hval0
  refine (foldRests_walk cs0 x0 _ _ _ _ _ W hr0 ht0 hE (by omega)).mono fun e W' ⟨he, hb⟩ => ⟨_, he, ?_⟩
  have hW2 : DataW.Whole enc Tryz.prog Tryz.f4.params.toList Rows.foldRestsSpec.vars false W _ _ _ _ := hW'
  exact law_post hW2 rfl hb laid (by kernel_rfl) rfl Tryz.underlying4 rfl

theorem said : Rows.FoldRestsUptoSaid :=
  OpenClaim.holds_of_cond 4 Tryz.f4 rfl rfl rfl rfl rfl rfl rfl ⟨rfl, rfl, rfl, rfl, rfl⟩ rfl rfl rfl rfl rfl (by kernel_rfl) Tryz.func4 (by kernel_rfl)
    (of_decide_eq_true (by kernel_rfl)) (by unfold Func.isWrapper; first | (rw [if_pos (by decide +kernel)]; kernel_rfl) | (rw [if_neg (by decide +kernel)]; exact ⟨rfl, rfl⟩))
    (fun os started H enc _ F => by rw [OpenClaim.pre_eq_preRow]; exact lifted os started H enc F)

theorem plain (f : FuncId) (fn : Func) (hf : Tryz.pinned.checked.prog.funcNamed "corbel/corbellaw11.FoldRests" = some f) (hfn : Tryz.pinned.checked.prog.funcs[f]? = some fn) :
    true = Tryz.pinned.checked.prog.looks [] ∧ ∀ (j : Nat) t, fn.params[j]? = some t → Tryz.pinned.checked.prog.wantsStandIn t = false := by
  obtain rfl : f = 4 := Option.some.inj ((show Tryz.prog.funcNamed "corbel/corbellaw11.FoldRests" = some 4 by kernel_rfl).symm.trans hf) |>.symm
  obtain rfl : fn = Tryz.f4 := (Option.some.inj (Tryz.func4.symm.trans hfn)).symm
  refine ⟨by kernel_rfl, fun j t ht => ?_⟩
  rw [Tryz.params4] at ht
  have hm : t ∈ [28] := by simpa using Array.mem_of_getElem? ht
  have hall : ([28].all fun u => !Tryz.prog.wantsStandIn u) = true := by kernel_rfl
  exact (show Tryz.prog.wantsStandIn t = false by simpa using List.all_eq_true.1 hall t hm)

/-- THE CARD. -/
theorem proved : Rows.FoldRestsUptoCardSaid :=
  Claim7.holds_tied_plain_at .later [] _ _ _ _ said (fun _ h => by cases h) (by kernel_rfl) (fun _ h => by cases h) foldRestsUpto_row_tie rfl ⟨rfl, rfl⟩ (by kernel_rfl) rfl plain (by kernel_rfl)
#print axioms proved
end Go.Proofs.YtgbibibmpoekiaaGreatDoor.foldRests

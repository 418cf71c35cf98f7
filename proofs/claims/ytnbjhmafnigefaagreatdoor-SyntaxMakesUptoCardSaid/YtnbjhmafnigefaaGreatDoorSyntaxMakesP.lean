/-
  SyntaxMakes: for every input of bulk at most 1048576 the law returns true, and its arguments read behind the call as they read before; the listed variables of Go's library start as the program's text lays them (the card ties them).
-/
import Derived.Test.YtnbjhmafnigefaaGreatDoorCards
import Derived.Test.YtnbjhmafnigefaaGreatDoorTie
import Derived.Test.YtnbjhmafnigefaaGreatDoorSmkA19
open Go.Proofs.Tryz
namespace Go.Proofs.YtnbjhmafnigefaaGreatDoor.syntaxMakes
open Go.ChangeShapes Go.WideShapes Go.ChangeAt Go.RowKit
open Go.ChangeMaps (open_string)

theorem env {W : World} (h : laidMetH prog Rows.syntaxMakesUptoRow.laid W) : Env W := by
  rw [MakeChecks.laidMetH_plain _ _ _ (by kernel_rfl)] at h
  first
    | exact zbE h
    | exact zbE (laidMet.tail h)
    | exact zbE (laidMet.tail (laidMet.tail h))
    | exact zbE (laidMet.tail (laidMet.tail (laidMet.tail h)))
    | exact zbE (laidMet.tail (laidMet.tail (laidMet.tail (laidMet.tail h))))

theorem zk6 (os : Os) (args : Array Value) : laidMetH prog Rows.syntaxMakesUptoRow.laid ((zcY os).forCall (fun _ _ => 0) ⟨#[], args, []⟩).memory :=
  laidMetH_of_parts3 (fuel := 8) (laidMet_of_run' 8 (by kernel_rfl) (by kernel_rfl)) (by kernel_rfl) (by kernel_rfl)

theorem zhy (os : Os) {H : Type} (enc : TypeId × Value → H) :
    (Rows.OpenSpec.upto Rows.syntaxMakesSpec).preRow enc prog Tryz.f7 Rows.syntaxMakesUptoRow.domain false Rows.syntaxMakesUptoRow.laid ((zcY os).forCall (fun _ _ => 0) ⟨#[], #[.slice none 0 0], []⟩).memory #[.slice none 0 0] := by
  have hw : (DataW.whole enc prog ((zcY os).forCall (fun _ _ => 0) ⟨#[], #[.slice none 0 0], []⟩).memory Tryz.f7.params.toList Rows.syntaxMakesSpec.vars false (#[.slice none 0 0] : Array Value).toList 8).map (fun x => (x.1, x.2.1)) =
      some ([.nil], []) := by kernel_rfl
  obtain ⟨⟨x1, x2, x3⟩, hx, hx1⟩ := Option.map_eq_some_iff.1 hw
  simp only [Prod.mk.injEq] at hx1
  obtain ⟨rfl, rfl⟩ := hx1
  exact OpenSpec.preRow_of_cond 8 hx (by kernel_rfl) (fun k hk => by cases hk; kernel_rfl) (by kernel_rfl) (zk6 os _)

set_option maxRecDepth 100000 in
set_option maxHeartbeats 2000000 in
theorem lifted (os : Os) (started : os.Started) (H : Type) (enc : TypeId × Value → H) (F : Stop.Interp) :
    ReturnsInHanded {} checked os 7 .any ((Rows.OpenSpec.upto Rows.syntaxMakesSpec).preRow enc prog Tryz.f7 Rows.syntaxMakesUptoRow.domain false Rows.syntaxMakesUptoRow.laid) (((Rows.OpenSpec.upto Rows.syntaxMakesSpec).at F).post enc prog Tryz.f7 false true false false) := by
  refine returnsInHanded_of_row (C := checked) (s := (Rows.OpenSpec.upto Rows.syntaxMakesSpec)) own started (by kernel_rfl) func7
    (witness_row_atRef (enc := enc) (C := checked) false (zcY os) #[.slice none 0 0] rfl (by kernel_rfl) (by kernel_rfl) (by kernel_rfl) (zhy os enc)) ?_
  intro W base args ds gs before hval0 hW _ hcond hsz hL hshape _
  have hE := env hL
  have hval : ∀ (j : Nat) t v, Tryz.f7.params[j]? = some t → args[j]? = some v → Value.okWide prog W .any base t v := hval0
  have hW' := hW
  obtain ⟨p, q, hA0, hV, rfl, hfz, hnd⟩ := hW
  have hA : DataW.TrodAll enc prog W 0 (fun _ => true) true Tryz.f7.params.toList args.toList ds p := hA0
  rw [params7] at hA hval
  obtain ⟨v0, vs0, d0, ds0, p0, q0, hargs, rfl, rfl, h0, r0⟩ := trodAll_cons hA
  obtain ⟨rfl, rfl, rfl⟩ := trodAll_nil r0
  obtain rfl : args = #[v0] := by cases args; simp_all
  obtain ⟨rfl, rfl⟩ := trodVars_none hV
  have hw0 := ziR hsz 0 rfl rfl
  obtain ⟨l0, hr0, hb0⟩ := ziz (hval 0 22 v0 rfl rfl) h0 hw0
  have hbk := zjc (hcond _ rfl)
  simp only [List.append_nil, Rows.uptoBulkAll] at hbk
  clear hA0 hval0
  refine (zdz l0 v0 W hr0 hE (by omega)).mono fun e W' ⟨he, hb⟩ => ⟨_, he, ?_⟩
  have hW2 : DataW.Whole enc prog Tryz.f7.params.toList Rows.syntaxMakesSpec.vars false W _ _ _ _ := hW'
  exact zlg hW2 rfl hb laid (by kernel_rfl) rfl underlying4 rfl

theorem said : Rows.SyntaxMakesUptoSaid :=
  OpenClaim.holds_of_cond 7 Tryz.f7 rfl rfl rfl rfl rfl rfl rfl ⟨rfl, rfl, rfl, rfl, rfl⟩ rfl rfl rfl rfl rfl (by kernel_rfl) func7 (by kernel_rfl)
    (of_decide_eq_true (by kernel_rfl)) (by unfold Func.isWrapper; first | (rw [if_pos (by decide +kernel)]; kernel_rfl) | (rw [if_neg (by decide +kernel)]; exact ⟨rfl, rfl⟩))
    (fun os started H enc _ F => by rw [OpenClaim.pre_eq_preRow]; exact lifted os started H enc F)

theorem plain (f : FuncId) (fn : Func) (hf : Tryz.pinned.checked.prog.funcNamed "corbel/corbellaw04.SyntaxMakes" = some f) (hfn : Tryz.pinned.checked.prog.funcs[f]? = some fn) :
    true = Tryz.pinned.checked.prog.looks [] ∧ ∀ (j : Nat) t, fn.params[j]? = some t → Tryz.pinned.checked.prog.wantsStandIn t = false := by
  obtain rfl : f = 7 := Option.some.inj ((show prog.funcNamed "corbel/corbellaw04.SyntaxMakes" = some 7 by kernel_rfl).symm.trans hf) |>.symm
  obtain rfl : fn = Tryz.f7 := (Option.some.inj (func7.symm.trans hfn)).symm
  refine ⟨by kernel_rfl, fun j t ht => ?_⟩
  rw [params7] at ht
  have hm : t ∈ [22] := by simpa using Array.mem_of_getElem? ht
  have hall : ([22].all fun u => !prog.wantsStandIn u) = true := by kernel_rfl
  exact (show prog.wantsStandIn t = false by simpa using List.all_eq_true.1 hall t hm)

/-- THE CARD. -/
theorem proved : Rows.SyntaxMakesUptoCardSaid :=
  Claim7.holds_tied_plain_at .later [] _ _ _ _ said (fun _ h => by cases h) (by kernel_rfl) (fun _ h => by cases h) syntaxMakesUpto_row_tie rfl ⟨rfl, rfl⟩ (by kernel_rfl) rfl plain (by kernel_rfl)
#print axioms proved
end Go.Proofs.YtnbjhmafnigefaaGreatDoor.syntaxMakes

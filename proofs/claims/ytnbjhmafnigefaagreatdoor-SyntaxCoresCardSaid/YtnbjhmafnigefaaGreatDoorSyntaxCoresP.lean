/-
  SyntaxCores: for every input the law returns true, and its arguments read behind the call as they read before; the listed variables of Go's library start as the program's text lays them (the card ties them).
-/
import Derived.Test.YtnbjhmafnigefaaGreatDoorCards
import Derived.Test.YtnbjhmafnigefaaGreatDoorTie
import Derived.Test.YtnbjhmafnigefaaGreatDoorSckA19
open Go.Proofs.Tryz
namespace Go.Proofs.YtnbjhmafnigefaaGreatDoor.syntaxCores
open Go.ChangeShapes Go.WideShapes Go.ChangeAt Go.RowKit
open Go.ChangeMaps (open_string)

theorem env {W : World} (h : laidMetH prog Rows.syntaxCoresRow.laid W) : Env W := by
  rw [MakeChecks.laidMetH_plain _ _ _ (by kernel_rfl)] at h
  first
    | exact zbA h
    | exact zbA (laidMet.tail h)
    | exact zbA (laidMet.tail (laidMet.tail h))
    | exact zbA (laidMet.tail (laidMet.tail (laidMet.tail h)))
    | exact zbA (laidMet.tail (laidMet.tail (laidMet.tail (laidMet.tail h))))

theorem zkN (os : Os) (args : Array Value) : laidMetH prog Rows.syntaxCoresRow.laid ((zcL os).forCall (fun _ _ => 0) ⟨#[], args, []⟩).memory :=
  laidMetH_of_parts3 (fuel := 8) (laidMet_of_run' 8 (by kernel_rfl) (by kernel_rfl)) (by kernel_rfl) (by kernel_rfl)

theorem zgN (os : Os) {H : Type} (enc : TypeId × Value → H) :
    (OpenSpec.ofChange Rows.syntaxCoresSpec).preRow enc prog Tryz.f6 Rows.syntaxCoresRow.domain false Rows.syntaxCoresRow.laid ((zcL os).forCall (fun _ _ => 0) ⟨#[], #[.agg #[.int .i64 0, .int .i64 0, .int .i64 0, .string ⟨#[]⟩, .slice none 0 0], .string ⟨#[]⟩], []⟩).memory #[.agg #[.int .i64 0, .int .i64 0, .int .i64 0, .string ⟨#[]⟩, .slice none 0 0], .string ⟨#[]⟩] := by
  have hw : (DataW.whole enc prog ((zcL os).forCall (fun _ _ => 0) ⟨#[], #[.agg #[.int .i64 0, .int .i64 0, .int .i64 0, .string ⟨#[]⟩, .slice none 0 0], .string ⟨#[]⟩], []⟩).memory Tryz.f6.params.toList Rows.syntaxCoresSpec.vars false (#[.agg #[.int .i64 0, .int .i64 0, .int .i64 0, .string ⟨#[]⟩, .slice none 0 0], .string ⟨#[]⟩] : Array Value).toList 8).map (fun x => (x.1, x.2.1)) =
      some ([.agg [.lit (.int .i64 0), .lit (.int .i64 0), .lit (.int .i64 0), .lit (.string []), .nil], .lit (.string [])], []) := by kernel_rfl
  obtain ⟨⟨x1, x2, x3⟩, hx, hx1⟩ := Option.map_eq_some_iff.1 hw
  simp only [Prod.mk.injEq] at hx1
  obtain ⟨rfl, rfl⟩ := hx1
  exact OpenSpec.preRow_of_cond 8 hx (by kernel_rfl) (fun k hk => by cases hk) (by kernel_rfl) (zkN os _)

set_option maxRecDepth 100000 in
set_option maxHeartbeats 2000000 in
theorem lifted (os : Os) (started : os.Started) (H : Type) (enc : TypeId × Value → H) (F : Stop.Interp) :
    ReturnsInHanded {} checked os 6 .any ((OpenSpec.ofChange Rows.syntaxCoresSpec).preRow enc prog Tryz.f6 Rows.syntaxCoresRow.domain false Rows.syntaxCoresRow.laid) (((OpenSpec.ofChange Rows.syntaxCoresSpec).at F).post enc prog Tryz.f6 false true false false) := by
  refine returnsInHanded_of_row (C := checked) (s := (OpenSpec.ofChange Rows.syntaxCoresSpec)) own started (by kernel_rfl) func6
    (witness_row_atRef (enc := enc) (C := checked) false (zcL os) #[.agg #[.int .i64 0, .int .i64 0, .int .i64 0, .string ⟨#[]⟩, .slice none 0 0], .string ⟨#[]⟩] rfl (by kernel_rfl) (by kernel_rfl) (by kernel_rfl) (zgN os enc)) ?_
  intro W base args ds gs before hval0 hW _ hcond hsz hL hshape _
  have hE := env hL
  have hval : ∀ (j : Nat) t v, Tryz.f6.params[j]? = some t → args[j]? = some v → Value.okWide prog W .any base t v := hval0
  have hW' := hW
  obtain ⟨p, q, hA0, hV, rfl, hfz, hnd⟩ := hW
  have hA : DataW.TrodAll enc prog W 0 (fun _ => true) true Tryz.f6.params.toList args.toList ds p := hA0
  rw [params6] at hA hval
  obtain ⟨v0, vs0, d0, ds0, p0, q0, hargs, rfl, rfl, h0, r0⟩ := trodAll_cons hA
  obtain ⟨v1, vs1, d1, ds1, p1, q1, rfl, rfl, rfl, h1, r1⟩ := trodAll_cons r0
  obtain ⟨rfl, rfl, rfl⟩ := trodAll_nil r1
  obtain rfl : args = #[v0, v1] := by cases args; simp_all
  obtain ⟨rfl, rfl⟩ := trodVars_none hV
  have hw0 := zhX hsz 0 rfl rfl
  obtain ⟨x0, hr0⟩ := ziQ (hval 0 26 v0 rfl rfl) h0 hw0
  obtain ⟨s1, rfl, rfl, rfl, hs1⟩ := open_string underlying9 (hval 1 9 v1 rfl rfl) h1
  have hz1 : s1.size ≤ 140737488351232 := by
    have := List.all_eq_true.1 hsz s1.data.toList.length (by simp [DataW.weightsEach, DataW.weights, params6])
    have h9 : s1.data.toList.length ≤ 140737488351232 := of_decide_eq_true this
    have e : s1.data.toList.length = s1.size := rfl
    omega
  clear hA0 hval0
  refine (zdy x0 v0 s1 W hr0 hE).mono fun e W' ⟨he, hb⟩ => ⟨_, he, ?_⟩
  have hW2 : DataW.Whole enc prog Tryz.f6.params.toList Rows.syntaxCoresSpec.vars false W _ _ _ _ := hW'
  exact zks hW2 rfl hb laid (by kernel_rfl) rfl underlying4 rfl

theorem said : Rows.SyntaxCoresSaid :=
  OpenClaim.holds_of_cond 6 Tryz.f6 rfl rfl rfl rfl rfl rfl rfl ⟨rfl, rfl, rfl, rfl, rfl⟩ rfl rfl rfl rfl rfl (by kernel_rfl) func6 (by kernel_rfl)
    (of_decide_eq_true (by kernel_rfl)) (by unfold Func.isWrapper; first | (rw [if_pos (by decide +kernel)]; kernel_rfl) | (rw [if_neg (by decide +kernel)]; exact ⟨rfl, rfl⟩))
    (fun os started H enc _ F => by rw [OpenClaim.pre_eq_preRow]; exact lifted os started H enc F)

theorem plain (f : FuncId) (fn : Func) (hf : Tryz.pinned.checked.prog.funcNamed "corbel/corbellaw04.SyntaxCores" = some f) (hfn : Tryz.pinned.checked.prog.funcs[f]? = some fn) :
    true = Tryz.pinned.checked.prog.looks [] ∧ ∀ (j : Nat) t, fn.params[j]? = some t → Tryz.pinned.checked.prog.wantsStandIn t = false := by
  obtain rfl : f = 6 := Option.some.inj ((show prog.funcNamed "corbel/corbellaw04.SyntaxCores" = some 6 by kernel_rfl).symm.trans hf) |>.symm
  obtain rfl : fn = Tryz.f6 := (Option.some.inj (func6.symm.trans hfn)).symm
  refine ⟨by kernel_rfl, fun j t ht => ?_⟩
  rw [params6] at ht
  have hm : t ∈ [26, 9] := by simpa using Array.mem_of_getElem? ht
  have hall : ([26, 9].all fun u => !prog.wantsStandIn u) = true := by kernel_rfl
  exact (show prog.wantsStandIn t = false by simpa using List.all_eq_true.1 hall t hm)

/-- THE CARD. -/
theorem proved : Rows.SyntaxCoresCardSaid :=
  Claim7.holds_tied_plain_at .later [] _ _ _ _ said (fun _ h => by cases h) (by kernel_rfl) (fun _ h => by cases h) syntaxCores_row_tie rfl ⟨rfl, rfl⟩ (by kernel_rfl) rfl plain (by kernel_rfl)
#print axioms proved
end Go.Proofs.YtnbjhmafnigefaaGreatDoor.syntaxCores

/-
  The frame of a law's row: a call that returns true and leaves all old memory as it was meets the row's post.
-/
import Derived.Test.YtlpkpkcfgchngaaDoorRows
import Derived.WalkKit
import Derived.ProofKit
import Derived.OpenShut
import Derived.Carry
import Derived.Deep.Draws
namespace Go.Proofs.YtlpkpkcfgchngaaDoor
open Go.ChangeShapes Go.WideShapes Go.ChangeAt Go.RowKit

theorem own : ownKnob Tryd.prog.godebug = none := by kernel_rfl

theorem laid : laidOutB Tryd.prog = true := by kernel_rfl

section
variable {H : Type} {enc : TypeId × Value → H} {P : Program}

theorem trodAll_below (hl : laidOutB P = true) {W W' : World} (hb : Below W.heap.size W W') :
    ∀ (ts : List TypeId) (vs : List Value) (ds : List (DataW H)) (ps : List MemPlace), (∀ t ∈ ts, P.readableRec t = true ∧ t < P.types.size) →
      DataW.TrodAll enc P W 0 (fun _ => true) true ts vs ds ps → (∀ x ∈ ps, x.block < W.heap.size) →
      DataW.TrodAll enc P W' 0 (fun b => decide (b < W.heap.size)) true ts vs ds ps
  | [], [], [], _, _, h, _ => h
  | t :: ts, v :: vs, d :: ds, ps, hts, h, hlt => by
    obtain ⟨p, q, h1, h2, rfl⟩ := h
    refine ⟨p, q, Below.trod hl (hts t (by simp)).1 (hts t (by simp)).2 h1 hb (fun x hx => hlt x (by simp [hx])), ?_, rfl⟩
    exact trodAll_below hl hb ts vs ds q (fun t ht => hts t (by simp [ht])) h2 (fun x hx => hlt x (by simp [hx]))
  | [], [], _ :: _, _, _, h, _ => h.elim
  | [], _ :: _, _, _, _, h, _ => h.elim
  | _ :: _, [], _, _, _, h, _ => h.elim
  | _ :: _, _ :: _, [], _, _, h, _ => h.elim

/-- A call that only draws leaves all as it was. -/
theorem calls_below {f : FuncId} {args : Array Value} {W : World} {v : Value} (h : Calls P f args W fun e w' => e = .returned v ∧ ∃ k, w' = W.drewN k) :
    Calls P f args W fun e w' => e = .returned v ∧ Below W.heap.size W w' :=
  h.mono fun _ _ ⟨he, _, hk⟩ => ⟨he, by rw [hk]; exact ⟨rfl, rfl, rfl, Nat.le_refl _, fun _ _ => rfl⟩⟩

/-- POST: the law returned true, and below the heap's old size nothing has turned. -/
theorem law_post {f : Func} {s : ChangeSpec} {W W' : World} {args : Array Value} {ds gs : List (DataW H)} {before : List MemPlace} {tb : TypeId}
    (hW : DataW.Whole enc P f.params.toList s.vars false W args.toList ds gs before) (hv : s.vars = []) (hb : Below W.heap.size W W') (hl : laidOutB P = true)
    (hts0 : (f.params.toList.all fun t => P.readableRec t && decide (t < P.types.size)) = true) (hres : f.resultTypes = #[tb]) (htb : P.underlying tb = some .bool)
    (hfn : s.fn H (ds ++ gs) = { results := [.lit (.bool true)], args := ds }) : s.post enc P f false true false false W args (.bool true) W' := by
  have hts : ∀ t ∈ f.params.toList, P.readableRec t = true ∧ t < P.types.size := fun t ht => by
    have := List.all_eq_true.1 hts0 t ht
    simpa using this
  have hW' := hW
  obtain ⟨p, q, hA, hV, rfl, hfz, hnd⟩ := hW
  rw [hv] at hV
  have hq : gs = [] ∧ q = [] := by
    cases gs with
    | nil => exact ⟨rfl, hV⟩
    | cons g gs => exact hV.elim
  obtain ⟨rfl, rfl⟩ := hq
  refine ⟨ds, [], p ++ [], [], p, [], hW', ?_, ?_, ?_, hb.frame _, fun h => by cases h⟩
  · rw [hfn, hres]
    exact ⟨[], [], ⟨1, by simp [Value.cells, DataW.trod, htb]⟩, rfl, rfl⟩
  · rw [hfn]
    exact trodAll_below hl hb _ _ _ _ hts hA (fun x hx => hW'.lt x (by simp [hx]))
  · rw [hfn, hv]
    exact rfl

/-- An array of six ints, by value. -/
theorem open_arr6 {r : Reach} {b0 : Nat} {base : Nat} {w : World} {spare : Nat → Bool} {held : Bool} {t e : TypeId} {v : Value} {d : DataW H} {ps : List MemPlace} (ht : P.underlying t = some (.array 6 e)) (he : P.underlying e = some (.int .i64))
    (hct : P.cellsOf t = 6) (hce : P.cellsOf e = 1) (hval : Value.okWide P w r b0 t v) (hd : DataW.Trod enc P w base spare held t v d ps) :
    ∃ x0 x1 x2 x3 x4 x5 : Int, v = .agg #[.int .i64 x0, .int .i64 x1, .int .i64 x2, .int .i64 x3, .int .i64 x4, .int .i64 x5] ∧ (Lit.int .i64 x0).wf = true ∧ (Lit.int .i64 x1).wf = true ∧ (Lit.int .i64 x2).wf = true ∧ (Lit.int .i64 x3).wf = true ∧ (Lit.int .i64 x4).wf = true ∧ (Lit.int .i64 x5).wf = true := by
  unfold Value.okWide at hval
  rw [ht] at hval
  obtain ⟨⟨l⟩, rfl, hsz, _⟩ := hval
  obtain ⟨fuel, hf⟩ := hd
  obtain ⟨xs, m, _, _, hlen, hxs, hget⟩ := DataW.trod_array ht hf
  rw [hct] at hlen
  simp only [Value.cells] at hlen hget
  rw [hce] at hget
  match l, hlen with
  | [a0, a1, a2, a3, a4, a5], _ =>
    have key : ∀ (i : Nat) (h : i < 6) (a : Value), [a0, a1, a2, a3, a4, a5][i]? = some a → ∃ x, a = .int .i64 x ∧ (Lit.int .i64 x).wf = true := by
      intro i h a ha
      have hg := hget i h
      rw [List.getElem?_eq_getElem (by omega)] at hg
      have hd1 : ([a0, a1, a2, a3, a4, a5].drop (i * 1)).take 1 = [a] := by
        rw [Nat.mul_one]
        match i, h with
        | 0, _ | 1, _ | 2, _ | 3, _ | 4, _ | 5, _ => simp at ha; subst ha; rfl
      simp only [hd1] at hg
      obtain ⟨n, h1, _, h2⟩ := DataW.trod_int he hg
      simp only [List.cons.injEq, and_true] at h1
      exact ⟨n, h1, h2⟩
    obtain ⟨x0, rfl, w0⟩ := key 0 (by omega) a0 rfl
    obtain ⟨x1, rfl, w1⟩ := key 1 (by omega) a1 rfl
    obtain ⟨x2, rfl, w2⟩ := key 2 (by omega) a2 rfl
    obtain ⟨x3, rfl, w3⟩ := key 3 (by omega) a3 rfl
    obtain ⟨x4, rfl, w4⟩ := key 4 (by omega) a4 rfl
    obtain ⟨x5, rfl, w5⟩ := key 5 (by omega) a5 rfl
    exact ⟨x0, x1, x2, x3, x4, x5, rfl, w0, w1, w2, w3, w4, w5⟩

theorem open_arr4 {r : Reach} {b0 : Nat} {base : Nat} {w : World} {spare : Nat → Bool} {held : Bool} {t e : TypeId} {v : Value} {d : DataW H} {ps : List MemPlace} (ht : P.underlying t = some (.array 4 e)) (he : P.underlying e = some (.int .i64))
    (hct : P.cellsOf t = 4) (hce : P.cellsOf e = 1) (hval : Value.okWide P w r b0 t v) (hd : DataW.Trod enc P w base spare held t v d ps) :
    ∃ x0 x1 x2 x3 : Int, v = .agg #[.int .i64 x0, .int .i64 x1, .int .i64 x2, .int .i64 x3] ∧ (Lit.int .i64 x0).wf = true ∧ (Lit.int .i64 x1).wf = true ∧ (Lit.int .i64 x2).wf = true ∧ (Lit.int .i64 x3).wf = true := by
  unfold Value.okWide at hval
  rw [ht] at hval
  obtain ⟨⟨l⟩, rfl, hsz, _⟩ := hval
  obtain ⟨fuel, hf⟩ := hd
  obtain ⟨xs, m, _, _, hlen, hxs, hget⟩ := DataW.trod_array ht hf
  rw [hct] at hlen
  simp only [Value.cells] at hlen hget
  rw [hce] at hget
  match l, hlen with
  | [a0, a1, a2, a3], _ =>
    have key : ∀ (i : Nat) (h : i < 4) (a : Value), [a0, a1, a2, a3][i]? = some a → ∃ x, a = .int .i64 x ∧ (Lit.int .i64 x).wf = true := by
      intro i h a ha
      have hg := hget i h
      rw [List.getElem?_eq_getElem (by omega)] at hg
      have hd1 : ([a0, a1, a2, a3].drop (i * 1)).take 1 = [a] := by
        rw [Nat.mul_one]
        match i, h with
        | 0, _ | 1, _ | 2, _ | 3, _ => simp at ha; subst ha; rfl
      simp only [hd1] at hg
      obtain ⟨n, h1, _, h2⟩ := DataW.trod_int he hg
      simp only [List.cons.injEq, and_true] at h1
      exact ⟨n, h1, h2⟩
    obtain ⟨x0, rfl, w0⟩ := key 0 (by omega) a0 rfl
    obtain ⟨x1, rfl, w1⟩ := key 1 (by omega) a1 rfl
    obtain ⟨x2, rfl, w2⟩ := key 2 (by omega) a2 rfl
    obtain ⟨x3, rfl, w3⟩ := key 3 (by omega) a3 rfl
    exact ⟨x0, x1, x2, x3, rfl, w0, w1, w2, w3⟩

theorem bd_i64 {n : Int} (h : (Lit.int .i64 n).wf = true) : -9223372036854775808 ≤ n ∧ n ≤ 9223372036854775807 := bounds_i64 h
end

end Go.Proofs.YtlpkpkcfgchngaaDoor

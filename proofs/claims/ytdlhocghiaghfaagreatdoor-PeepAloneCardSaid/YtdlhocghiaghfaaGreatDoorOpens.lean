/-
  The frame of a law's row: a call that returns true and leaves all old memory as it was meets the row's post.
-/
import Derived.Test.YtdlhocghiaghfaaGreatDoorRows
import Derived.WalkKit
import Derived.ProofKit
import Derived.OpenShut
import Derived.Carry
import Derived.Deep.Draws
import Derived.Test.YtdlhocghiaghfaaGreatDoorEnv
import Derived.Deep.DeepHandedRow
import Derived.Deep.DeepWitnessRowRef
import Derived.LaidMore
import Derived.LaidHandle
import Derived.MakeChecks
import Derived.Stop.LaidErr
import Derived.Stop.Joined
import Derived.SevenTiedAt
import Derived.Test.YtdlhocghiaghfaaGreatDoorFewAll
import Derived.Deep.Slices
import Derived.SizedLaws
import Derived.Test.YtdlhocghiaghfaaGreatDoorBoxes
import Derived.Test.YtdlhocghiaghfaaGreatDoorPlain
import Derived.Lib.ItoaLen
namespace Go.Proofs.YtdlhocghiaghfaaGreatDoor
open Go.ChangeShapes Go.WideShapes Go.ChangeAt Go.RowKit

theorem own : ownKnob Tryz.prog.godebug = none := by kernel_rfl

theorem laid : laidOutB Tryz.prog = true := by kernel_rfl

section
variable {H : Type} {enc : TypeId × Value → H} {P : Program}

theorem trodAll_below (hl : laidOutB P = true) {W W' : World} (hb : Below W.heap.size W W') :
    ∀ (ts : List TypeId) (vs : List Value) (ds : List (DataW H)) (ps : List MemPlace), (∀ t ∈ ts, P.readableRec t = true ∧ t < P.types.size) →
      DataW.TrodAll enc P W 0 (fun _ => true) true ts vs ds ps → (∀ x ∈ ps, x.block < W.heap.size) →
      DataW.TrodAll enc P W' 0 (fun b => decide (b < W.heap.size)) true ts vs ds ps
  | [], [], [], _, _, h, _ => h
  | t :: ts, v :: vs, d :: ds, ps, hts, h, hlt => by
    obtain ⟨p, q, h1, h2, rfl⟩ := h
    refine ⟨p, q, Below.trod hl (hts t (by simp)).1 (hts t (by simp)).2 h1 hb (fun x hx => hlt x (by simp [hx])), ?_, rfl⟩
    exact trodAll_below hl hb ts vs ds q (fun t ht => hts t (by simp [ht])) h2 (fun x hx => hlt x (by simp [hx]))
  | [], [], _ :: _, _, _, h, _ => h.elim
  | [], _ :: _, _, _, _, h, _ => h.elim
  | _ :: _, [], _, _, _, h, _ => h.elim
  | _ :: _, _ :: _, [], _, _, h, _ => h.elim

/-- A call that only draws leaves all as it was. -/
theorem calls_below {f : FuncId} {args : Array Value} {W : World} {v : Value} (h : Calls P f args W fun e w' => e = .returned v ∧ ∃ k, w' = W.drewN k) :
    Calls P f args W fun e w' => e = .returned v ∧ Below W.heap.size W w' :=
  h.mono fun _ _ ⟨he, _, hk⟩ => ⟨he, by rw [hk]; exact ⟨rfl, rfl, rfl, Nat.le_refl _, fun _ _ => rfl⟩⟩

/-- POST: the law returned true, and below the heap's old size nothing has turned. -/
theorem law_post {f : Func} {s : ChangeSpec} {W W' : World} {args : Array Value} {ds gs : List (DataW H)} {before : List MemPlace} {tb : TypeId}
    (hW : DataW.Whole enc P f.params.toList s.vars false W args.toList ds gs before) (hv : s.vars = []) (hb : Below W.heap.size W W') (hl : laidOutB P = true)
    (hts0 : (f.params.toList.all fun t => P.readableRec t && decide (t < P.types.size)) = true) (hres : f.resultTypes = #[tb]) (htb : P.underlying tb = some .bool)
    (hfn : s.fn H (ds ++ gs) = { results := [.lit (.bool true)], args := ds }) : s.post enc P f false true false false W args (.bool true) W' := by
  have hts : ∀ t ∈ f.params.toList, P.readableRec t = true ∧ t < P.types.size := fun t ht => by
    have := List.all_eq_true.1 hts0 t ht
    simpa using this
  have hW' := hW
  obtain ⟨p, q, hA, hV, rfl, hfz, hnd⟩ := hW
  rw [hv] at hV
  have hq : gs = [] ∧ q = [] := by
    cases gs with
    | nil => exact ⟨rfl, hV⟩
    | cons g gs => exact hV.elim
  obtain ⟨rfl, rfl⟩ := hq
  refine ⟨ds, [], p ++ [], [], p, [], hW', ?_, ?_, ?_, hb.frame _, fun h => by cases h⟩
  · rw [hfn, hres]
    exact ⟨[], [], ⟨1, by simp [Value.cells, DataW.trod, htb]⟩, rfl, rfl⟩
  · rw [hfn]
    exact trodAll_below hl hb _ _ _ _ hts hA (fun x hx => hW'.lt x (by simp [hx]))
  · rw [hfn, hv]
    exact rfl

/-- An array of six ints, by value. -/
theorem open_arr6 {r : Reach} {b0 : Nat} {base : Nat} {w : World} {spare : Nat → Bool} {held : Bool} {t e : TypeId} {v : Value} {d : DataW H} {ps : List MemPlace} (ht : P.underlying t = some (.array 6 e)) (he : P.underlying e = some (.int .i64))
    (hct : P.cellsOf t = 6) (hce : P.cellsOf e = 1) (hval : Value.okWide P w r b0 t v) (hd : DataW.Trod enc P w base spare held t v d ps) :
    ∃ x0 x1 x2 x3 x4 x5 : Int, v = .agg #[.int .i64 x0, .int .i64 x1, .int .i64 x2, .int .i64 x3, .int .i64 x4, .int .i64 x5] ∧ (Lit.int .i64 x0).wf = true ∧ (Lit.int .i64 x1).wf = true ∧ (Lit.int .i64 x2).wf = true ∧ (Lit.int .i64 x3).wf = true ∧ (Lit.int .i64 x4).wf = true ∧ (Lit.int .i64 x5).wf = true := by
  unfold Value.okWide at hval
  rw [ht] at hval
  obtain ⟨⟨l⟩, rfl, hsz, _⟩ := hval
  obtain ⟨fuel, hf⟩ := hd
  obtain ⟨xs, m, _, _, hlen, hxs, hget⟩ := DataW.trod_array ht hf
  rw [hct] at hlen
  simp only [Value.cells] at hlen hget
  rw [hce] at hget
  match l, hlen with
  | [a0, a1, a2, a3, a4, a5], _ =>
    have key : ∀ (i : Nat) (h : i < 6) (a : Value), [a0, a1, a2, a3, a4, a5][i]? = some a → ∃ x, a = .int .i64 x ∧ (Lit.int .i64 x).wf = true := by
      intro i h a ha
      have hg := hget i h
      rw [List.getElem?_eq_getElem (by omega)] at hg
      have hd1 : ([a0, a1, a2, a3, a4, a5].drop (i * 1)).take 1 = [a] := by
        rw [Nat.mul_one]
        match i, h with
        | 0, _ | 1, _ | 2, _ | 3, _ | 4, _ | 5, _ => simp at ha; subst ha; rfl
      simp only [hd1] at hg
      obtain ⟨n, h1, _, h2⟩ := DataW.trod_int he hg
      simp only [List.cons.injEq, and_true] at h1
      exact ⟨n, h1, h2⟩
    obtain ⟨x0, rfl, w0⟩ := key 0 (by omega) a0 rfl
    obtain ⟨x1, rfl, w1⟩ := key 1 (by omega) a1 rfl
    obtain ⟨x2, rfl, w2⟩ := key 2 (by omega) a2 rfl
    obtain ⟨x3, rfl, w3⟩ := key 3 (by omega) a3 rfl
    obtain ⟨x4, rfl, w4⟩ := key 4 (by omega) a4 rfl
    obtain ⟨x5, rfl, w5⟩ := key 5 (by omega) a5 rfl
    exact ⟨x0, x1, x2, x3, x4, x5, rfl, w0, w1, w2, w3, w4, w5⟩

theorem open_arr4 {r : Reach} {b0 : Nat} {base : Nat} {w : World} {spare : Nat → Bool} {held : Bool} {t e : TypeId} {v : Value} {d : DataW H} {ps : List MemPlace} (ht : P.underlying t = some (.array 4 e)) (he : P.underlying e = some (.int .i64))
    (hct : P.cellsOf t = 4) (hce : P.cellsOf e = 1) (hval : Value.okWide P w r b0 t v) (hd : DataW.Trod enc P w base spare held t v d ps) :
    ∃ x0 x1 x2 x3 : Int, v = .agg #[.int .i64 x0, .int .i64 x1, .int .i64 x2, .int .i64 x3] ∧ (Lit.int .i64 x0).wf = true ∧ (Lit.int .i64 x1).wf = true ∧ (Lit.int .i64 x2).wf = true ∧ (Lit.int .i64 x3).wf = true := by
  unfold Value.okWide at hval
  rw [ht] at hval
  obtain ⟨⟨l⟩, rfl, hsz, _⟩ := hval
  obtain ⟨fuel, hf⟩ := hd
  obtain ⟨xs, m, _, _, hlen, hxs, hget⟩ := DataW.trod_array ht hf
  rw [hct] at hlen
  simp only [Value.cells] at hlen hget
  rw [hce] at hget
  match l, hlen with
  | [a0, a1, a2, a3], _ =>
    have key : ∀ (i : Nat) (h : i < 4) (a : Value), [a0, a1, a2, a3][i]? = some a → ∃ x, a = .int .i64 x ∧ (Lit.int .i64 x).wf = true := by
      intro i h a ha
      have hg := hget i h
      rw [List.getElem?_eq_getElem (by omega)] at hg
      have hd1 : ([a0, a1, a2, a3].drop (i * 1)).take 1 = [a] := by
        rw [Nat.mul_one]
        match i, h with
        | 0, _ | 1, _ | 2, _ | 3, _ => simp at ha; subst ha; rfl
      simp only [hd1] at hg
      obtain ⟨n, h1, _, h2⟩ := DataW.trod_int he hg
      simp only [List.cons.injEq, and_true] at h1
      exact ⟨n, h1, h2⟩
    obtain ⟨x0, rfl, w0⟩ := key 0 (by omega) a0 rfl
    obtain ⟨x1, rfl, w1⟩ := key 1 (by omega) a1 rfl
    obtain ⟨x2, rfl, w2⟩ := key 2 (by omega) a2 rfl
    obtain ⟨x3, rfl, w3⟩ := key 3 (by omega) a3 rfl
    exact ⟨x0, x1, x2, x3, rfl, w0, w1, w2, w3⟩

theorem bd_i64 {n : Int} (h : (Lit.int .i64 n).wf = true) : -9223372036854775808 ≤ n ∧ n ≤ 9223372036854775807 := bounds_i64 h
end

end Go.Proofs.YtdlhocghiaghfaaGreatDoor

namespace Go.Proofs.YtdlhocghiaghfaaGreatDoor
open Go.ChangeShapes Go.WideShapes Go.ChangeAt Go.RowKit

/-- The heap that the door's own run leaves, and Go's own pinned table laid in it. -/
noncomputable def laidWorld (os : Os) : World :=
  { World.doorLaid Tryz.prog 400 os with heap := (World.doorLaid Tryz.prog 400 os).heap.modify 0 fun
      | .cells _ t frozen => .cells (Go.Pinned.utf8FirstZ.map fun z : Nat => Value.int .u8 (z : Int)).toArray t frozen
      | o => o }

theorem env_of_head {W : World} {rest : List (String × DataW Unit)} (h : laidMet Tryz.prog (("internal/strconv.uint64pow10", Rows.laid_internal_strconv_uint64pow10) :: rest) W) : Env W := by
  have e : (Rows.laid_internal_strconv_uint64pow10 : DataW Unit) = Lib.tabData .u64 Lib.pow10Tab := by kernel_rfl
  rw [e] at h
  exact Lib.tabIs_of_head (g := 5) (t := 239) (e := 157) (n := 20) (by kernel_rfl) (by kernel_rfl) Tryz.underlying239 Tryz.underlying157 (by kernel_rfl) (by kernel_rfl) h

end Go.Proofs.YtdlhocghiaghfaaGreatDoor

namespace Go.Proofs.YtdlhocghiaghfaaGreatDoor
open Go.RowKit Go.Deep

section
variable {H : Type} {enc : TypeId × Value → H}

theorem cells_datum : Tryz.prog.cellsOf 66 = 5 := by kernel_rfl
theorem cells_int : Tryz.prog.cellsOf 3 = 1 := by kernel_rfl
theorem cells_string : Tryz.prog.cellsOf 9 = 1 := by kernel_rfl
theorem cells_data : Tryz.prog.cellsOf 22 = 1 := by kernel_rfl
theorem bytes_datum : Tryz.prog.bytesOf 66 = 64 := by kernel_rfl

theorem weightsAll_mem {P : Program} {e : TypeId} : ∀ {l : List (DataW H)} {d : DataW H}, d ∈ l → ∀ n ∈ d.weights P e, n ∈ DataW.weightsAll P e l
  | d' :: r, d, hd, n, hn => by
    simp only [DataW.weightsAll, List.mem_append]
    rcases List.mem_cons.1 hd with rfl | h
    · exact Or.inl hn
    · exact Or.inr (weightsAll_mem h n hn)

theorem weightsEach_mem {P : Program} : ∀ {ts : List TypeId} {l : List (DataW H)} (i : Nat) {t : TypeId} {d : DataW H}, ts[i]? = some t → l[i]? = some d → ∀ n ∈ d.weights P t, n ∈ DataW.weightsEach P ts l
  | t' :: ts, d' :: r, 0, t, d, ht, hd, n, hn => by
    simp only [List.getElem?_cons_zero, Option.some.injEq] at ht hd
    subst ht; subst hd
    simp only [DataW.weightsEach, List.mem_append]; exact Or.inl hn
  | t' :: ts, d' :: r, i + 1, t, d, ht, hd, n, hn => by
    simp only [DataW.weightsEach, List.mem_append]
    exact Or.inr (weightsEach_mem i (by simpa using ht) (by simpa using hd) n hn)
  | [], _, i, t, d, ht, _, _, _ => by simp at ht
  | _ :: _, [], i, t, d, _, hd, _, _ => by simp at hd

theorem repC_build {w : World} {B b : Nat} : ∀ (len off : Nat), (∀ i, i < len → ∃ x c0 c1 c2 c3 c4, w.cell? ⟨b, off + i * 5, none⟩ = some c0 ∧ w.cell? ⟨b, off + i * 5 + 1, none⟩ = some c1 ∧ w.cell? ⟨b, off + i * 5 + 2, none⟩ = some c2 ∧ w.cell? ⟨b, off + i * 5 + 3, none⟩ = some c3 ∧ w.cell? ⟨b, off + i * 5 + 4, none⟩ = some c4 ∧ RepD w B x (.agg #[c0, c1, c2, c3, c4])) →
    ∃ l : List Dat, l.length = len ∧ RepC w B l b off
  | 0, off, _ => ⟨[], rfl, by rw [RepC]; trivial⟩
  | len + 1, off, h => by
    obtain ⟨x, c0, c1, c2, c3, c4, h0, h1, h2, h3, h4, h5⟩ := h 0 (by omega)
    obtain ⟨l, hl, hr⟩ := repC_build len (off + 5) (fun i hi => by
      have := h (i + 1) (by omega)
      have e : off + (i + 1) * 5 = off + 5 + i * 5 := by omega
      rw [e] at this; exact this)
    refine ⟨x :: l, by simp [hl], ?_⟩
    rw [RepC]
    simp only [Nat.zero_mul, Nat.add_zero] at h0 h1 h2 h3 h4
    exact ⟨⟨c0, c1, c2, c3, c4, h0, h1, h2, h3, h4, h5⟩, hr⟩

theorem add_none {a : Addr} (h : a.spot = none) (n : Nat) : a.add n = ⟨a.block, a.off + n, none⟩ := by
  obtain ⟨b, o, sp⟩ := a
  simp only at h
  subst h
  unfold Addr.add
  split
  · rename_i h0; subst h0; rfl
  · rfl

theorem cell_spot {w : World} {a : Addr} {v : Value} (h : w.cell? a = some v) : a.spot = none ∧ a.block < w.heap.size := by
  unfold World.cell? at h
  split at h
  · rename_i he
    split at h
    · cases h
    · rename_i hs
      refine ⟨by simpa using hs, ?_⟩
      exact (Array.getElem?_eq_some_iff.1 he).1
  · cases h

set_option maxRecDepth 100000 in
theorem rep_of_trod {w : World} : ∀ (fuel : Nat) (cs : List Value) (y : DataW H × List MemPlace), DataW.trod enc Tryz.prog w 0 (fun _ => true) true fuel 66 cs = some y →
    (∀ n ∈ y.1.weights Tryz.prog 66, n ≤ reachBytes) → ∃ x, RepD w w.heap.size x (.agg cs.toArray) := by
  intro fuel
  induction fuel using Nat.strongRecOn with
  | ind fuel ih =>
    intro cs y h hw
    obtain ⟨xs, n, rfl, rfl, hlen, hxs, hget⟩ := DataW.trod_struct Tryz.underlying66 h
    rw [cells_datum] at hlen
    match cs, hlen with
    | [c0, c1, c2, c3, c4], _ =>
      have g0 : DataW.trod enc Tryz.prog w 0 (fun _ => true) true n 3 (([c0, c1, c2, c3, c4].drop 0).take (Tryz.prog.cellsOf 3)) = xs[0]? := hget 0 _ rfl
      have g1 : DataW.trod enc Tryz.prog w 0 (fun _ => true) true n 3 (([c0, c1, c2, c3, c4].drop 1).take (Tryz.prog.cellsOf 3)) = xs[1]? := hget 1 _ rfl
      have g2 : DataW.trod enc Tryz.prog w 0 (fun _ => true) true n 3 (([c0, c1, c2, c3, c4].drop 2).take (Tryz.prog.cellsOf 3)) = xs[2]? := hget 2 _ rfl
      have g3 : DataW.trod enc Tryz.prog w 0 (fun _ => true) true n 9 (([c0, c1, c2, c3, c4].drop 3).take (Tryz.prog.cellsOf 9)) = xs[3]? := hget 3 _ rfl
      have g4 : DataW.trod enc Tryz.prog w 0 (fun _ => true) true n 22 (([c0, c1, c2, c3, c4].drop 4).take (Tryz.prog.cellsOf 22)) = xs[4]? := hget 4 _ rfl
      rw [cells_int] at g0 g1 g2
      rw [cells_string] at g3
      rw [cells_data] at g4
      have hx5 : xs.length = 5 := hxs
      match xs, hx5 with
      | [x0, x1, x2, x3, x4], _ =>
        obtain ⟨k, e0, _, w0⟩ := DataW.trod_int Tryz.underlying3 (show _ = some x0 from g0)
        obtain ⟨m, e1, _, w1⟩ := DataW.trod_int Tryz.underlying3 (show _ = some x1 from g1)
        obtain ⟨d, e2, _, w2⟩ := DataW.trod_int Tryz.underlying3 (show _ = some x2 from g2)
        obtain ⟨s, e3, hx3, _⟩ := DataW.trod_string Tryz.underlying9 (show _ = some x3 from g3)
        have f0 : c0 = .int .i64 k := by simpa using e0
        have f1 : c1 = .int .i64 m := by simpa using e1
        have f2 : c2 = .int .i64 d := by simpa using e2
        have f3 : c3 = .string s := by simpa using e3
        subst f0 f1 f2 f3 hx3
        have we : ∀ (i : Nat) (t : TypeId) (z : DataW H), [3, 3, 3, 9, 22][i]? = some t → [x0.1, x1.1, x2.1, DataW.lit (Lit.string s.data.toList), x4.1][i]? = some z → ∀ n ∈ z.weights Tryz.prog t, n ≤ reachBytes := by
          intro i t z ht hz q hq
          refine hw q ?_
          show q ∈ DataW.weights Tryz.prog 66 (.agg _)
          simp only [DataW.weights, Tryz.underlying66]
          exact weightsEach_mem i ht hz q hq
        have hs : s.size ≤ 140737488351232 := we 3 9 _ rfl rfl s.data.toList.length (by simp [DataW.weights])
        have w4 := we 4 22 _ rfl rfl
        rcases DataW.trod_slice Tryz.underlying22 (show _ = some x4 from g4) with ⟨e4, _⟩ | ⟨a, len, cap, elems, rest, n', rfl, e4, hx4, _, hle, _, hel, hget4, hsp, _⟩
        · have f4 : c4 = .slice none 0 0 := by simpa using e4
          subst f4
          exact ⟨.mk k m d s [], RepD.shut (bounds_i64 w0) (bounds_i64 w1) (bounds_i64 w2) hs ⟨none, 0, 0, rfl, rfl, by omega, by omega, rfl, rfl⟩⟩
        · have f4 : c4 = .slice (some a) len cap := by simpa using e4
          subst f4 hx4
          have hrest := (hsp rfl).1
          have hcap : cap ≤ 9223372036854775807 := by
            have := w4 ((elems.length + rest.length) * 64) (by simp [DataW.weights, Tryz.underlying22, bytes_datum])
            have h9 : (elems.length + rest.length) * 64 ≤ 140737488351232 := this
            omega
          by_cases h0 : len = 0
          · subst h0
            exact ⟨.mk k m d s [], RepD.shut (bounds_i64 w0) (bounds_i64 w1) (bounds_i64 w2) hs ⟨some a, 0, cap, rfl, rfl, by omega, hcap, fun h => absurd rfl h, by rw [RepC]; trivial⟩⟩
          have hat : ∀ i (hi : i < len), ∃ cs', w.cells? 0 (a.add (i * 5)) 5 = some cs' ∧ DataW.trod enc Tryz.prog w 0 (fun _ => true) true n' 66 cs' = some (elems[i]'(by omega)) := by
            intro i hi
            have hb := hget4 i hi
            rw [cells_datum, List.getElem?_eq_getElem (by omega)] at hb
            exact Option.bind_eq_some_iff.1 hb
          obtain ⟨hspot, hblk⟩ : a.spot = none ∧ a.block < w.heap.size := by
            obtain ⟨cs', hc1, _⟩ := hat 0 (by omega)
            obtain ⟨_, hl5, hcs⟩ := World.cells?_some hc1
            have h00 := hcs 0 (by omega)
            rw [List.getElem?_eq_getElem (by omega)] at h00
            have := cell_spot h00
            simpa [Addr.add] using this
          have hcell : ∀ i, i < len → ∃ x c0 c1 c2 c3 c4, w.cell? ⟨a.block, a.off + i * 5, none⟩ = some c0 ∧ w.cell? ⟨a.block, a.off + i * 5 + 1, none⟩ = some c1 ∧ w.cell? ⟨a.block, a.off + i * 5 + 2, none⟩ = some c2 ∧ w.cell? ⟨a.block, a.off + i * 5 + 3, none⟩ = some c3 ∧ w.cell? ⟨a.block, a.off + i * 5 + 4, none⟩ = some c4 ∧ RepD w w.heap.size x (.agg #[c0, c1, c2, c3, c4]) := by
            intro i hi
            obtain ⟨cs', hc1, hc2⟩ := hat i hi
            obtain ⟨_, hl5, hcs⟩ := World.cells?_some hc1
            rw [add_none hspot] at hcs
            have hcs2 : ∀ j, j < 5 → w.cell? ⟨a.block, a.off + i * 5 + j, none⟩ = cs'[j]? := by
              intro j hj
              have := hcs j hj
              rw [add_none rfl] at this
              exact this
            match cs', hl5 with
            | [a0, a1, a2, a3, a4], _ =>
              obtain ⟨x, hx⟩ := ih n' (by omega) _ _ hc2 (fun q hq => w4 q (by
                simp only [DataW.weights, Tryz.underlying22, List.mem_cons, List.mem_append]
                refine Or.inr (Or.inl (weightsAll_mem (d := (elems[i]'(by omega)).1) ?_ q hq))
                exact List.mem_map_of_mem (List.getElem_mem _)))
              exact ⟨x, a0, a1, a2, a3, a4, hcs2 0 (by omega), hcs2 1 (by omega), hcs2 2 (by omega), hcs2 3 (by omega), hcs2 4 (by omega), hx⟩
          obtain ⟨l, hl, hr⟩ := repC_build len a.off hcell
          exact ⟨.mk k m d s l, RepD.shut (bounds_i64 w0) (bounds_i64 w1) (bounds_i64 w2) hs ⟨some a, len, cap, rfl, hl.symm, hle, hcap, fun _ => ⟨hspot, hblk⟩, hr⟩⟩
end
end Go.Proofs.YtdlhocghiaghfaaGreatDoor

namespace Go.Proofs.YtdlhocghiaghfaaGreatDoor
open Go.RowKit Go.Deep Go.ChangeShapes Go.WideShapes Go.ChangeAt

section
variable {H : Type} {enc : TypeId × Value → H}

set_option maxRecDepth 100000 in
theorem repS_of_trod {w : World} (fuel : Nat) (c4 : Value) (x4 : DataW H × List MemPlace) (g4 : DataW.trod enc Tryz.prog w 0 (fun _ => true) true fuel 22 [c4] = some x4) (w4 : ∀ n ∈ x4.1.weights Tryz.prog 22, n ≤ reachBytes) : ∃ l, RepS w w.heap.size l c4 := by
  rcases DataW.trod_slice Tryz.underlying22 g4 with ⟨e4, _⟩ | ⟨a, len, cap, elems, rest, n', rfl, e4, hx4, _, hle, _, hel, hget4, hsp, _⟩
  · have f4 : c4 = .slice none 0 0 := by simpa using e4
    subst f4
    exact ⟨[], none, 0, 0, rfl, rfl, by omega, by omega, rfl, rfl⟩
  · have f4 : c4 = .slice (some a) len cap := by simpa using e4
    subst f4 hx4
    have hrest := (hsp rfl).1
    have hcap : cap ≤ 9223372036854775807 := by
      have := w4 ((elems.length + rest.length) * 64) (by simp [DataW.weights, Tryz.underlying22, bytes_datum])
      have h9 : (elems.length + rest.length) * 64 ≤ 140737488351232 := this
      omega
    by_cases h0 : len = 0
    · subst h0
      exact ⟨[], some a, 0, cap, rfl, rfl, by omega, hcap, fun h => absurd rfl h, by rw [RepC]; trivial⟩
    have hat : ∀ i (hi : i < len), ∃ cs', w.cells? 0 (a.add (i * 5)) 5 = some cs' ∧ DataW.trod enc Tryz.prog w 0 (fun _ => true) true n' 66 cs' = some (elems[i]'(by omega)) := by
      intro i hi
      have hb := hget4 i hi
      rw [cells_datum, List.getElem?_eq_getElem (by omega)] at hb
      exact Option.bind_eq_some_iff.1 hb
    obtain ⟨hspot, hblk⟩ : a.spot = none ∧ a.block < w.heap.size := by
      obtain ⟨cs', hc1, _⟩ := hat 0 (by omega)
      obtain ⟨_, hl5, hcs⟩ := World.cells?_some hc1
      have h00 := hcs 0 (by omega)
      rw [List.getElem?_eq_getElem (by omega)] at h00
      have := cell_spot h00
      simpa [Addr.add] using this
    have hcell : ∀ i, i < len → ∃ x c0 c1 c2 c3 c4, w.cell? ⟨a.block, a.off + i * 5, none⟩ = some c0 ∧ w.cell? ⟨a.block, a.off + i * 5 + 1, none⟩ = some c1 ∧ w.cell? ⟨a.block, a.off + i * 5 + 2, none⟩ = some c2 ∧ w.cell? ⟨a.block, a.off + i * 5 + 3, none⟩ = some c3 ∧ w.cell? ⟨a.block, a.off + i * 5 + 4, none⟩ = some c4 ∧ RepD w w.heap.size x (.agg #[c0, c1, c2, c3, c4]) := by
      intro i hi
      obtain ⟨cs', hc1, hc2⟩ := hat i hi
      obtain ⟨_, hl5, hcs⟩ := World.cells?_some hc1
      rw [add_none hspot] at hcs
      have hcs2 : ∀ j, j < 5 → w.cell? ⟨a.block, a.off + i * 5 + j, none⟩ = cs'[j]? := by
        intro j hj
        have := hcs j hj
        rw [add_none rfl] at this
        exact this
      match cs', hl5 with
      | [a0, a1, a2, a3, a4], _ =>
        obtain ⟨x, hx⟩ := rep_of_trod n' _ _ hc2 (fun q hq => w4 q (by
          simp only [DataW.weights, Tryz.underlying22, List.mem_cons, List.mem_append]
          refine Or.inr (Or.inl (weightsAll_mem (d := (elems[i]'(by omega)).1) ?_ q hq))
          exact List.mem_map_of_mem (List.getElem_mem _)))
        exact ⟨x, a0, a1, a2, a3, a4, hcs2 0 (by omega), hcs2 1 (by omega), hcs2 2 (by omega), hcs2 3 (by omega), hcs2 4 (by omega), hx⟩
    obtain ⟨l, hl, hr⟩ := repC_build len a.off hcell
    exact ⟨l, some a, len, cap, rfl, hl.symm, hle, hcap, fun _ => ⟨hspot, hblk⟩, hr⟩

set_option maxRecDepth 100000 in
/-- An argument that is a slice of data. -/
theorem open_data {W : World} {r : Reach} {b0 : Nat} {v : Value} {d : DataW H} {ps : List MemPlace} (hval : Value.okWide Tryz.prog W r b0 22 v) (hd : DataW.Trod enc Tryz.prog W 0 (fun _ => true) true 22 v d ps) (hw : ∀ n ∈ d.weights Tryz.prog 22, n ≤ reachBytes) : ∃ l, RepS W W.heap.size l v := by
  obtain ⟨a0, len, cap, rfl⟩ := okWide_slice Tryz.underlying22 hval
  obtain ⟨fuel, hf⟩ := hd
  exact repS_of_trod fuel _ (d, ps) (by simpa [Value.cells] using hf) hw

set_option maxRecDepth 100000 in
/-- .. that is a datum. -/
theorem open_datum {W : World} {r : Reach} {b0 : Nat} {v : Value} {d : DataW H} {ps : List MemPlace} (hval : Value.okWide Tryz.prog W r b0 66 v) (hd : DataW.Trod enc Tryz.prog W 0 (fun _ => true) true 66 v d ps) (hw : ∀ n ∈ d.weights Tryz.prog 66, n ≤ reachBytes) : ∃ x, RepD W W.heap.size x v := by
  unfold Value.okWide at hval
  rw [Tryz.underlying66] at hval
  obtain ⟨⟨l⟩, rfl, _⟩ := hval
  obtain ⟨fuel, hf⟩ := hd
  obtain ⟨x, hx⟩ := rep_of_trod fuel l (d, ps) (by simpa [Value.cells] using hf) hw
  exact ⟨x, hx⟩

set_option maxRecDepth 100000 in
/-- An argument's weights are within the reach. -/
theorem weights_at {ts : List TypeId} {l : List (DataW H)} (h : (DataW.weightsEach Tryz.prog ts l).all (· ≤ reachBytes) = true) (i : Nat) {t : TypeId} {d : DataW H} (ht : ts[i]? = some t) (hd : l[i]? = some d) : ∀ n ∈ d.weights Tryz.prog t, n ≤ reachBytes := fun n hn => by
  have := List.all_eq_true.1 h n (weightsEach_mem i ht hd n hn)
  simpa using this
end
end Go.Proofs.YtdlhocghiaghfaaGreatDoor

namespace Go.Proofs.YtdlhocghiaghfaaGreatDoor
open Go.RowKit Go.Deep Go.ChangeShapes Go.WideShapes Go.ChangeAt

namespace Dat
mutual
def bulk : Dat → Nat
  | mk _ _ _ s l => s.size + 1 + bulkL l
def bulkL : List Dat → Nat
  | [] => 0
  | x :: l => bulk x + bulkL l
end

theorem num_text_len (n d : Int) : (Num.text n d).length ≤ 43 := by
  unfold Num.text
  split
  · rename_i h
    obtain ⟨h1, h2, h3, h4, _⟩ := (Num.right_iff n d).1 h
    have l1 := Lib.itoa_length_le n (by omega) (by omega)
    have l2 := Lib.itoa_length_le d (by omega) (by omega)
    split <;> simp <;> omega
  · simp

mutual
theorem text_len : ∀ (x : Dat) (tl : Bool), (text x tl).length + 1 ≤ 50 * bulk x
  | mk k n d s l, tl => by
    have hP := textP_len l
    have hA := textA_len k n d s l
    rw [text, bulk]
    split
    · split <;> simp <;> omega
    · split
      · split
        · simp only [List.length_nil]; omega
        · simp only [List.length_cons, List.length_append, List.length_nil]; omega
      · omega
theorem textA_len : ∀ (k n d : Int) (s : ByteArray) (l : List Dat), (textA k n d s l).length + 4 ≤ 50 * (s.size + 1 + bulkL l)
  | k, n, d, s, l => by
    have hV := textV_len l true
    have hN := num_text_len n d
    have hs : s.data.toList.length = s.size := rfl
    rw [textA]
    repeat' split
    all_goals (try simp only [List.length_cons, List.length_append, List.length_nil])
    all_goals omega
theorem textP_len : ∀ (l : List Dat), (textP l).length ≤ 50 * bulkL l
  | [a, b] => by
    have h1 := text_len a false
    have h2 := text_len b true
    rw [textP]
    simp only [List.length_append, bulkL]
    omega
  | [] => by rw [textP] <;> simp
  | [a] => by rw [textP] <;> simp
  | a :: b :: c :: l => by rw [textP] <;> simp
theorem textV_len : ∀ (l : List Dat) (f : Bool), (textV l f).length ≤ 50 * bulkL l
  | [], _ => by rw [textV]; simp
  | x :: l, f => by
    have h1 := text_len x false
    have h2 := textV_len l false
    rw [textV, bulkL]
    cases f <;> simp <;> omega
end
end Dat

section
variable {H : Type} {enc : TypeId × Value → H}

theorem bulk_le {x0 x1 x2 x4 : DataW H} {k n d : Int} {s : ByteArray} {l : List Dat} (h : Dat.bulkL l ≤ Rows.uptoBulk x4) : Dat.bulk (.mk k n d s l) ≤ Rows.uptoBulk (DataW.agg [x0, x1, x2, .lit (.string s.data.toList), x4]) := by
  have hs : s.data.toList.length = s.size := rfl
  simp only [Dat.bulk, Rows.uptoBulk, Rows.uptoBulkAll]
  omega

theorem repC_buildB {w : World} {B b : Nat} : ∀ (es : List (DataW H)) (off : Nat), (∀ i (hi : i < es.length), ∃ x c0 c1 c2 c3 c4, w.cell? ⟨b, off + i * 5, none⟩ = some c0 ∧ w.cell? ⟨b, off + i * 5 + 1, none⟩ = some c1 ∧ w.cell? ⟨b, off + i * 5 + 2, none⟩ = some c2 ∧ w.cell? ⟨b, off + i * 5 + 3, none⟩ = some c3 ∧ w.cell? ⟨b, off + i * 5 + 4, none⟩ = some c4 ∧ RepD w B x (.agg #[c0, c1, c2, c3, c4]) ∧ Dat.bulk x ≤ Rows.uptoBulk es[i]) →
    ∃ l : List Dat, l.length = es.length ∧ RepC w B l b off ∧ Dat.bulkL l ≤ Rows.uptoBulkAll es
  | [], off, _ => ⟨[], rfl, by rw [RepC]; trivial, Nat.le_refl _⟩
  | e :: es, off, h => by
    obtain ⟨x, c0, c1, c2, c3, c4, h0, h1, h2, h3, h4, h5, h6⟩ := h 0 (by simp)
    obtain ⟨l, hl, hr, hb⟩ := repC_buildB es (off + 5) (fun i hi => by
      have := h (i + 1) (by simpa using hi)
      have e : off + (i + 1) * 5 = off + 5 + i * 5 := by omega
      rw [e] at this; simpa using this)
    refine ⟨x :: l, by simp [hl], ?_, ?_⟩
    · rw [RepC]
      simp only [Nat.zero_mul, Nat.add_zero] at h0 h1 h2 h3 h4
      exact ⟨⟨c0, c1, c2, c3, c4, h0, h1, h2, h3, h4, h5⟩, hr⟩
    · simp only [Dat.bulkL, Rows.uptoBulkAll]
      have : Dat.bulk x ≤ Rows.uptoBulk e := by simpa using h6
      omega

set_option maxRecDepth 100000 in
theorem rep_of_trodB {w : World} : ∀ (fuel : Nat) (cs : List Value) (y : DataW H × List MemPlace), DataW.trod enc Tryz.prog w 0 (fun _ => true) true fuel 66 cs = some y →
    (∀ n ∈ y.1.weights Tryz.prog 66, n ≤ reachBytes) → ∃ x, RepD w w.heap.size x (.agg cs.toArray) ∧ Dat.bulk x ≤ Rows.uptoBulk y.1 := by
  intro fuel
  induction fuel using Nat.strongRecOn with
  | ind fuel ih =>
    intro cs y h hw
    obtain ⟨xs, n, rfl, rfl, hlen, hxs, hget⟩ := DataW.trod_struct Tryz.underlying66 h
    rw [cells_datum] at hlen
    match cs, hlen with
    | [c0, c1, c2, c3, c4], _ =>
      have g0 : DataW.trod enc Tryz.prog w 0 (fun _ => true) true n 3 (([c0, c1, c2, c3, c4].drop 0).take (Tryz.prog.cellsOf 3)) = xs[0]? := hget 0 _ rfl
      have g1 : DataW.trod enc Tryz.prog w 0 (fun _ => true) true n 3 (([c0, c1, c2, c3, c4].drop 1).take (Tryz.prog.cellsOf 3)) = xs[1]? := hget 1 _ rfl
      have g2 : DataW.trod enc Tryz.prog w 0 (fun _ => true) true n 3 (([c0, c1, c2, c3, c4].drop 2).take (Tryz.prog.cellsOf 3)) = xs[2]? := hget 2 _ rfl
      have g3 : DataW.trod enc Tryz.prog w 0 (fun _ => true) true n 9 (([c0, c1, c2, c3, c4].drop 3).take (Tryz.prog.cellsOf 9)) = xs[3]? := hget 3 _ rfl
      have g4 : DataW.trod enc Tryz.prog w 0 (fun _ => true) true n 22 (([c0, c1, c2, c3, c4].drop 4).take (Tryz.prog.cellsOf 22)) = xs[4]? := hget 4 _ rfl
      rw [cells_int] at g0 g1 g2
      rw [cells_string] at g3
      rw [cells_data] at g4
      have hx5 : xs.length = 5 := hxs
      match xs, hx5 with
      | [x0, x1, x2, x3, x4], _ =>
        obtain ⟨k, e0, _, w0⟩ := DataW.trod_int Tryz.underlying3 (show _ = some x0 from g0)
        obtain ⟨m, e1, _, w1⟩ := DataW.trod_int Tryz.underlying3 (show _ = some x1 from g1)
        obtain ⟨d, e2, _, w2⟩ := DataW.trod_int Tryz.underlying3 (show _ = some x2 from g2)
        obtain ⟨s, e3, hx3, _⟩ := DataW.trod_string Tryz.underlying9 (show _ = some x3 from g3)
        have f0 : c0 = .int .i64 k := by simpa using e0
        have f1 : c1 = .int .i64 m := by simpa using e1
        have f2 : c2 = .int .i64 d := by simpa using e2
        have f3 : c3 = .string s := by simpa using e3
        subst f0 f1 f2 f3 hx3
        have we : ∀ (i : Nat) (t : TypeId) (z : DataW H), [3, 3, 3, 9, 22][i]? = some t → [x0.1, x1.1, x2.1, DataW.lit (Lit.string s.data.toList), x4.1][i]? = some z → ∀ n ∈ z.weights Tryz.prog t, n ≤ reachBytes := by
          intro i t z ht hz q hq
          refine hw q ?_
          show q ∈ DataW.weights Tryz.prog 66 (.agg _)
          simp only [DataW.weights, Tryz.underlying66]
          exact weightsEach_mem i ht hz q hq
        have hs : s.size ≤ 140737488351232 := we 3 9 _ rfl rfl s.data.toList.length (by simp [DataW.weights])
        have w4 := we 4 22 _ rfl rfl
        rcases DataW.trod_slice Tryz.underlying22 (show _ = some x4 from g4) with ⟨e4, _⟩ | ⟨a, len, cap, elems, rest, n', rfl, e4, hx4, _, hle, _, hel, hget4, hsp, _⟩
        · have f4 : c4 = .slice none 0 0 := by simpa using e4
          subst f4
          exact ⟨.mk k m d s [], RepD.shut (bounds_i64 w0) (bounds_i64 w1) (bounds_i64 w2) hs ⟨none, 0, 0, rfl, rfl, by omega, by omega, rfl, rfl⟩, bulk_le (Nat.zero_le _)⟩
        · have f4 : c4 = .slice (some a) len cap := by simpa using e4
          subst f4 hx4
          have hrest := (hsp rfl).1
          have hcap : cap ≤ 9223372036854775807 := by
            have := w4 ((elems.length + rest.length) * 64) (by simp [DataW.weights, Tryz.underlying22, bytes_datum])
            have h9 : (elems.length + rest.length) * 64 ≤ 140737488351232 := this
            omega
          by_cases h0 : len = 0
          · subst h0
            exact ⟨.mk k m d s [], RepD.shut (bounds_i64 w0) (bounds_i64 w1) (bounds_i64 w2) hs ⟨some a, 0, cap, rfl, rfl, by omega, hcap, fun h => absurd rfl h, by rw [RepC]; trivial⟩, bulk_le (Nat.zero_le _)⟩
          have hat : ∀ i (hi : i < len), ∃ cs', w.cells? 0 (a.add (i * 5)) 5 = some cs' ∧ DataW.trod enc Tryz.prog w 0 (fun _ => true) true n' 66 cs' = some (elems[i]'(by omega)) := by
            intro i hi
            have hb := hget4 i hi
            rw [cells_datum, List.getElem?_eq_getElem (by omega)] at hb
            exact Option.bind_eq_some_iff.1 hb
          obtain ⟨hspot, hblk⟩ : a.spot = none ∧ a.block < w.heap.size := by
            obtain ⟨cs', hc1, _⟩ := hat 0 (by omega)
            obtain ⟨_, hl5, hcs⟩ := World.cells?_some hc1
            have h00 := hcs 0 (by omega)
            rw [List.getElem?_eq_getElem (by omega)] at h00
            have := cell_spot h00
            simpa [Addr.add] using this
          have hcell : ∀ i (hi : i < (elems.map Prod.fst).length), ∃ x c0 c1 c2 c3 c4, w.cell? ⟨a.block, a.off + i * 5, none⟩ = some c0 ∧ w.cell? ⟨a.block, a.off + i * 5 + 1, none⟩ = some c1 ∧ w.cell? ⟨a.block, a.off + i * 5 + 2, none⟩ = some c2 ∧ w.cell? ⟨a.block, a.off + i * 5 + 3, none⟩ = some c3 ∧ w.cell? ⟨a.block, a.off + i * 5 + 4, none⟩ = some c4 ∧ RepD w w.heap.size x (.agg #[c0, c1, c2, c3, c4]) ∧ Dat.bulk x ≤ Rows.uptoBulk (elems.map Prod.fst)[i] := by
            intro i hi'
            have hi : i < len := by simpa [hel] using hi'
            obtain ⟨cs', hc1, hc2⟩ := hat i hi
            obtain ⟨_, hl5, hcs⟩ := World.cells?_some hc1
            rw [add_none hspot] at hcs
            have hcs2 : ∀ j, j < 5 → w.cell? ⟨a.block, a.off + i * 5 + j, none⟩ = cs'[j]? := by
              intro j hj
              have := hcs j hj
              rw [add_none rfl] at this
              exact this
            match cs', hl5 with
            | [a0, a1, a2, a3, a4], _ =>
              obtain ⟨x, hx, hxb⟩ := ih n' (by omega) _ _ hc2 (fun q hq => w4 q (by
                simp only [DataW.weights, Tryz.underlying22, List.mem_cons, List.mem_append]
                refine Or.inr (Or.inl (weightsAll_mem (d := (elems[i]'(by omega)).1) ?_ q hq))
                exact List.mem_map_of_mem (List.getElem_mem _)))
              exact ⟨x, a0, a1, a2, a3, a4, hcs2 0 (by omega), hcs2 1 (by omega), hcs2 2 (by omega), hcs2 3 (by omega), hcs2 4 (by omega), hx, by simpa using hxb⟩
          obtain ⟨l, hl, hr, hlb⟩ := repC_buildB (elems.map Prod.fst) a.off hcell
          exact ⟨.mk k m d s l, RepD.shut (bounds_i64 w0) (bounds_i64 w1) (bounds_i64 w2) hs ⟨some a, len, cap, rfl, by rw [hl]; simp [hel], hle, hcap, fun _ => ⟨hspot, hblk⟩, hr⟩, bulk_le (Nat.le_trans hlb (by show Rows.uptoBulkAll (elems.map fun x => x.1) ≤ _; simp only [Rows.uptoBulk]; omega))⟩

set_option maxRecDepth 100000 in
theorem open_datumB {W : World} {r : Reach} {b0 : Nat} {v : Value} {d : DataW H} {ps : List MemPlace} (hval : Value.okWide Tryz.prog W r b0 66 v) (hd : DataW.Trod enc Tryz.prog W 0 (fun _ => true) true 66 v d ps) (hw : ∀ n ∈ d.weights Tryz.prog 66, n ≤ reachBytes) : ∃ x, RepD W W.heap.size x v ∧ Dat.bulk x ≤ Rows.uptoBulk d := by
  unfold Value.okWide at hval
  rw [Tryz.underlying66] at hval
  obtain ⟨⟨l⟩, rfl, _⟩ := hval
  obtain ⟨fuel, hf⟩ := hd
  obtain ⟨x, hx⟩ := rep_of_trodB fuel l (d, ps) (by simpa [Value.cells] using hf) hw
  exact ⟨x, hx⟩
end

theorem bulk_bound {H : Type} {l : List (DataW H)} (hk : Rows.uptoSmall H l = true) : Rows.uptoBulkAll l ≤ 1048576 := of_decide_eq_true hk
end Go.Proofs.YtdlhocghiaghfaaGreatDoor

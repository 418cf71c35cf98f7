/-
  What the proofs lean on: ShW.
-/
import Derived.Test.YtigkhmppnnljiaaGreatDoorShiftA14
import Derived.Test.YtigkhmppnnljiaaGreatDoorShiftA15
import Derived.Test.YtigkhmppnnljiaaGreatDoorShiftA21
import Derived.Test.YtigkhmppnnljiaaGreatDoorShiftA36
namespace Go.Proofs.YtigkhmppnnljiaaGreatDoor
open Go Go.RowKit

/-- What Shift makes of a variable. -/
def rk (k v : Int) : Int := if -9223372036854775808 ≤ v ∧ v ≤ 9223372036854775807 then wrap64 (v + k) else v
theorem rk_i64 {k v : Int} (h : I64 v) : rk k v = wrap64 (v + k) := if_pos h
theorem wrap_I64 (z : Int) : I64 (wrap64 z) := by
  simp [I64, wrap64]
  omega
theorem wrap64_is (z : Int) : IntKind.i64.wrap z = wrap64 z := by
  simp [wrap64, IntKind.wrap, IntKind.bits, IntKind.signed]
  try omega
/-- A block of ints or of terms. -/
def PT (W : World) (b : Nat) : Prop := ∃ cs t f, W.heap[b]? = some (.cells cs t f) ∧ (t = 3 ∨ t = 41)
/-- A term's cells read so in every world that keeps these blocks, those of ints and of terms. -/
def TrmF (W : World) (K : Nat → Prop) (x : Trm) (cs : List Value) : Prop := ∀ W2 : World, (∀ b, K b → PT W b → b < W.heap.size → W2.heap[b]? = W.heap[b]?) → TrmR W2 W.heap.size x cs
theorem TrmF.keep {W W' : World} {K K' : Nat → Prop} {x : Trm} {cs : List Value} (h : TrmF W K x cs) (hs : W.heap.size ≤ W'.heap.size) (hK : ∀ b, b < W.heap.size → K b → K' b) (hb : ∀ b, K b → PT W b → b < W.heap.size → W'.heap[b]? = W.heap[b]?) : TrmF W' K' x cs := fun W2 h2 =>
  TrmR.wider hs _ _ (h W2 fun b hk hp hlt => (h2 b (hK b hlt hk) (by unfold PT; rw [hb b hk hp hlt]; exact hp) (Nat.lt_of_lt_of_le hlt hs)).trans (hb b hk hp hlt))
theorem TrmF.reads {W : World} {K : Nat → Prop} {x : Trm} {cs : List Value} (h : TrmF W K x cs) : TrmR W W.heap.size x cs := h W fun _ _ _ _ => rfl
/-- What a call of Shift leaves. -/
def ShPost (k : Int) (x : Trm) (w : World) (e : Ending) (w' : World) : Prop := ∃ (o n : Int) (ov ot : Option Addr) (lv cv lt ct : Nat), e = .returned (.agg #[.int .i64 o, .int .i64 n, .slice ov lv cv, .slice ot lt ct]) ∧ TrmF w' (fun b => w.heap.size ≤ b) (x.shift (rk k)) [.int .i64 o, .int .i64 n, .slice ov lv cv, .slice ot lt ct] ∧ Below w.heap.size w w'
theorem own_base {W : World} {base n size : Nat} {e : TypeId} {v : Value} {xs : List Value} (h : W.ownsRow base e size v n xs) : ∀ g, v.ownBlock = some g → base ≤ g := by
  intro r hr
  rcases h.2 with ⟨rfl, _⟩ | ⟨g, cap, cur, rfl, hb, _⟩
  · cases hr
  · simp only [Value.ownBlock, Option.some.injEq] at hr
    omega
theorem ownsRow_turned {S : Nat → Prop} {W W' : World} {base n size : Nat} {e : TypeId} {v u : Value} {xs : List Value} (h : W.ownsRow base e size v n xs) (ht : Turned S W W') (hS : ∀ b, S b → u.ownBlock = some b) (hne : ∀ g, v.ownBlock = some g → u.ownBlock ≠ some g) : W'.ownsRow base e size v n xs :=
  h.kept (row := u.ownBlock) ⟨ht.os, ht.tape, ht.output, ht.size, fun k hk hn => ht.block k hk fun e => hn (hS k e).symm⟩ (by
    cases hv : v.ownBlock with
    | none => exact .inl rfl
    | some g => exact .inr (fun e => hne g hv e.symm))
/-- What Shift keeps. -/
structure ShI (w wr : World) (args : List Value) (o n5 : Int) (vsl tsl : Value) (lv : List Int) (lt : List Trm) (nv nt : Nat) : Prop where
  x2 : BoxL wr w.heap.size 41 args
  x4 : BoxL wr (w.heap.size + 1) 41 [.int .i64 0, .int .i64 0, .slice none 0 0, .slice none 0 0]
  x5 : BoxL wr (w.heap.size + 1 + 1) 41 [.int .i64 o, .int .i64 n5, vsl, tsl]
  vrow : wr.ownsRow (w.heap.size + 3) 3 1 vsl nv (lv.map (Value.int .i64))
  vlen : nv = lv.length
  ints : ∀ x ∈ lv, I64 x
  trow : ∃ xs, wr.ownsRow (w.heap.size + 3) 41 4 tsl nt xs ∧ CellsG 4 (TrmF wr (fun b => w.heap.size + 3 ≤ b ∧ tsl.ownBlock ≠ some b)) lt xs
  tlen : nt = lt.length
  turn : Turned (fun b => w.heap.size ≤ b) w wr
theorem ShI.size {w wr : World} {args : List Value} {o n5 : Int} {vsl tsl : Value} {lv : List Int} {lt : List Trm} {nv nt : Nat} (h : ShI w wr args o n5 vsl tsl lv lt nv nt) : w.heap.size + 3 ≤ wr.heap.size := by
  have := h.x5.lt
  omega
theorem ShI.vform {w wr : World} {args : List Value} {o n5 : Int} {vsl tsl : Value} {lv : List Int} {lt : List Trm} {nv nt : Nat} (h : ShI w wr args o n5 vsl tsl lv lt nv nt) : ∃ o c, vsl = .slice o nv c := by
  rcases h.vrow.2 with ⟨h1, h2⟩ | ⟨g, cap, cur, h1, _⟩
  · exact ⟨none, 0, by rw [h1, h2]⟩
  · exact ⟨_, _, h1⟩
theorem ShI.tform {w wr : World} {args : List Value} {o n5 : Int} {vsl tsl : Value} {lv : List Int} {lt : List Trm} {nv nt : Nat} (h : ShI w wr args o n5 vsl tsl lv lt nv nt) : ∃ o c, tsl = .slice o nt c := by
  obtain ⟨xs, hx, _⟩ := h.trow
  rcases hx.2 with ⟨h1, h2⟩ | ⟨g, cap, cur, h1, _⟩
  · exact ⟨none, 0, by rw [h1, h2]⟩
  · exact ⟨_, _, h1⟩
/-- When its number is set. -/
theorem ShI.setN {w W : World} {args : List Value} {o n5 : Int} (m : Int) (h : ShI w W args o n5 (.slice none 0 0) (.slice none 0 0) [] [] 0 0) : ShI w (W.setCell ⟨w.heap.size + 1 + 1, 1, none⟩ (.int .i64 m)) args o m (.slice none 0 0) (.slice none 0 0) [] [] 0 0 :=
  ⟨h.x2.other _ _ (by show w.heap.size ≠ w.heap.size + 1 + 1; omega), h.x4.other _ _ (by show w.heap.size + 1 ≠ w.heap.size + 1 + 1; omega), h.x5.set 1 _, World.ownsRow_nil _ _ _ _, rfl, h.ints, ⟨[], World.ownsRow_nil _ _ _ _, rfl⟩, rfl, h.turn.next (Turned.set _ _ _ (by show w.heap.size ≤ w.heap.size + 1 + 1; omega))⟩
/-- Behind the append of a variable. -/
theorem ShI.vnext {w W5 w1 : World} {args : List Value} {o n5 : Int} {vsl : Value} {lv : List Int} {nv g cap : Nat} {x : Int} (h : ShI w W5 args o n5 vsl (.slice none 0 0) lv [] nv 0) (ht : Turned (fun b => vsl.ownBlock = some b) W5 w1) (hown : w1.ownsRow (w.heap.size + 3) 3 1 (.slice (some ⟨g, 0, none⟩) (nv + 1) cap) (nv + 1) (lv.map (Value.int .i64) ++ ([.int .i64 x] : List Value))) (hx : I64 x) :
    ShI w (w1.setCell ⟨w.heap.size + 1 + 1, 2, none⟩ (.slice (some ⟨g, 0, none⟩) (nv + 1) cap)) args o n5 (.slice (some ⟨g, 0, none⟩) (nv + 1) cap) (.slice none 0 0) (lv ++ [x]) [] (nv + 1) 0 := by
  have hb := own_base h.vrow
  have hg := own_base hown g rfl
  refine ⟨(ht.box h.x2 fun e => by have := hb _ e; omega).other _ _ (by show w.heap.size ≠ w.heap.size + 1 + 1; omega), (ht.box h.x4 fun e => by have := hb _ e; omega).other _ _ (by show w.heap.size + 1 ≠ w.heap.size + 1 + 1; omega), (ht.box h.x5 fun e => by have := hb _ e; omega).set 2 _, ?_, by rw [h.vlen]; simp, fun y hy => ?_, ⟨[], World.ownsRow_nil _ _ _ _, rfl⟩, rfl, (h.turn.trans ht fun b hlt hS => by have := hb b hS; omega).next (Turned.set _ _ _ (by show w.heap.size ≤ w.heap.size + 1 + 1; omega))⟩
  · rw [List.map_append]
    exact ownsRow_set hown _ _ (fun r hr e => by
      simp only [Value.ownBlock, Option.some.injEq] at hr
      have e : r = w.heap.size + 1 + 1 := e
      omega)
  · rcases List.mem_append.1 hy with hy | hy
    · exact h.ints y hy
    · rw [List.mem_singleton.1 hy]; exact hx
/-- Behind the append of a term. -/
theorem ShI.tnext {w W5 w1 : World} {args : List Value} {o n5 : Int} {vsl tsl : Value} {lv : List Int} {lt : List Trm} {nv nt g cap : Nat} {xs : List Value} {x : Trm} {c0 c1 c2 c3 : Value} (h : ShI w W5 args o n5 vsl tsl lv lt nv nt) (ht : Turned (fun b => tsl.ownBlock = some b) W5 w1) (hown : w1.ownsRow (w.heap.size + 3) 41 4 (.slice (some ⟨g, 0, none⟩) (nt + 1) cap) (nt + 1) (xs ++ [c0, c1, c2, c3])) (hxs : CellsG 4 (TrmF W5 (fun b => w.heap.size + 3 ≤ b ∧ tsl.ownBlock ≠ some b)) lt xs) (hlie : tsl.ownBlock = some g ∨ W5.heap.size ≤ g) (hx : TrmF w1 (fun b => W5.heap.size ≤ b ∧ b ≠ g) x [c0, c1, c2, c3]) :
    ShI w (w1.setCell ⟨w.heap.size + 1 + 1, 3, none⟩ (.slice (some ⟨g, 0, none⟩) (nt + 1) cap)) args o n5 vsl (.slice (some ⟨g, 0, none⟩) (nt + 1) cap) lv (lt ++ [x]) nv (nt + 1) := by
  obtain ⟨xs0, hr0, _⟩ := h.trow
  have hb := own_base hr0
  have hbv := own_base h.vrow
  have hg := own_base hown g rfl
  have hz := h.size
  have hne : ∀ b, b ≠ w.heap.size + 1 + 1 → (w1.setCell ⟨w.heap.size + 1 + 1, 3, none⟩ (.slice (some ⟨g, 0, none⟩) (nt + 1) cap)).heap[b]? = w1.heap[b]? := fun b hb => setCell_heap_other _ _ _ hb
  have hsz : (w1.setCell ⟨w.heap.size + 1 + 1, 3, none⟩ (.slice (some ⟨g, 0, none⟩) (nt + 1) cap)).heap.size = w1.heap.size := World.size_setCell _ _ _
  refine ⟨(ht.box h.x2 fun e => by have := hb _ e; omega).other _ _ (by show w.heap.size ≠ w.heap.size + 1 + 1; omega), (ht.box h.x4 fun e => by have := hb _ e; omega).other _ _ (by show w.heap.size + 1 ≠ w.heap.size + 1 + 1; omega), (ht.box h.x5 fun e => by have := hb _ e; omega).set 3 _, ?_, h.vlen, h.ints, ⟨xs ++ [c0, c1, c2, c3], ?_, ?_⟩, by rw [h.tlen]; simp, (h.turn.trans ht fun b hlt hS => by have := hb b hS; omega).next (Turned.set _ _ _ (by show w.heap.size ≤ w.heap.size + 1 + 1; omega))⟩
  · refine ownsRow_set (ownsRow_turned (u := tsl) h.vrow ht (fun _ h => h) fun r hr e => ?_) _ _ (fun r hr e => by
      have e : r = w.heap.size + 1 + 1 := e
      have := hbv r hr
      omega)
    obtain ⟨cs, f, hc⟩ := own_row h.vrow r hr
    obtain ⟨cs', f', hc'⟩ := own_row hr0 r e
    rw [hc] at hc'
    simp at hc'
  · exact ownsRow_set hown _ _ (fun r hr e => by
      simp only [Value.ownBlock, Option.some.injEq] at hr
      have e : r = w.heap.size + 1 + 1 := e
      omega)
  · refine CellsG.snoc rfl (hx.keep (by omega) (fun b hlt hk => ⟨by omega, fun e => hk.2 (by simpa [Value.ownBlock] using e.symm)⟩) (fun b hk _ hlt => hne b (by omega))) (hxs.mono fun y _ cs hy => hy.keep (by rw [hsz]; exact ht.size) (fun b hlt hk => ⟨hk.1, fun e => ?_⟩) (fun b hk _ hlt => (hne b (by omega)).trans (ht.block b hlt hk.2)))
    have e : g = b := by simpa [Value.ownBlock] using e
    rcases hlie with h | h
    · exact hk.2 (by rw [h, e])
    · omega
theorem ownsRow_block {W W' : World} {base n size : Nat} {e : TypeId} {v : Value} {xs : List Value} (h : W.ownsRow base e size v n xs) (hb : ∀ g, v.ownBlock = some g → W'.heap[g]? = W.heap[g]?) : W'.ownsRow base e size v n xs := by
  refine ⟨h.1, ?_⟩
  rcases h.2 with h' | ⟨g, cap, cur, rfl, h2, h3, h4⟩
  · exact .inl h'
  · exact .inr ⟨g, cap, cur, rfl, h2, (hb g rfl).trans h3, h4⟩
theorem SlC.rebound {α : Type} {W : World} {B B' size : Nat} {R : α → List Value → Prop} {l : List α} {v : Value} (h : SlC W B size R l v) (hb : ∀ g, v.ownBlock = some g → g < B') : SlC W B' size R l v := by
  obtain ⟨o, len, cap, rfl, h1, h2, h3, h4⟩ := h
  refine ⟨o, len, cap, rfl, h1, h2, h3, ?_⟩
  cases o with
  | none => exact h4
  | some a => exact ⟨fun hl => ⟨(h4.1 hl).1, hb a.block rfl⟩, h4.2⟩
theorem ShI.done {w wr W9 : World} {args : List Value} {k o n n5 : Int} {v : List Int} {t : List Trm} {vsl tsl : Value} {nv nt : Nat} (h : ShI w wr args o n5 vsl tsl (v.map (rk k)) (t.map (Trm.shift (rk k))) nv nt) (h9 : ∀ b, b ≠ w.heap.size + 1 → W9.heap[b]? = wr.heap[b]?) (hs : W9.heap.size = wr.heap.size) (ho : I64 o) (hn : I64 n5) (hN : (if o = 1 ∨ o = 2 ∨ o = 14 then rk k n else n) = n5) :
    TrmF W9 (fun b => w.heap.size ≤ b) ((Trm.mk o n v t).shift (rk k)) [.int .i64 o, .int .i64 n5, vsl, tsl] := by
  intro W2 h2
  obtain ⟨xs, hr, hxs⟩ := h.trow
  have hbv := own_base h.vrow
  have hbt := own_base hr
  have hlv : ∀ g, vsl.ownBlock = some g → g < wr.heap.size := fun g hg => by
    obtain ⟨cs, f, hc⟩ := own_row h.vrow g hg
    exact (Array.getElem?_eq_some_iff.1 hc).1
  have hlt : ∀ g, tsl.ownBlock = some g → g < wr.heap.size := fun g hg => by
    obtain ⟨cs, f, hc⟩ := own_row hr g hg
    exact (Array.getElem?_eq_some_iff.1 hc).1
  have hv2 := ownsRow_block (W' := W2) h.vrow (fun g hg => by
    have h1 := hbv g hg
    have h3 := hlv g hg
    obtain ⟨cs, f, hc⟩ := own_row h.vrow g hg
    exact (h2 g (by omega) ⟨cs, _, f, (h9 g (by omega)).trans hc, .inl rfl⟩ (by omega)).trans (h9 g (by omega)))
  have ht2 := ownsRow_block (W' := W2) hr (fun g hg => by
    have h1 := hbt g hg
    have h3 := hlt g hg
    obtain ⟨cs, f, hc⟩ := own_row hr g hg
    exact (h2 g (by omega) ⟨cs, _, f, (h9 g (by omega)).trans hc, .inr rfl⟩ (by omega)).trans (h9 g (by omega)))
  rw [Trm.shift, hN, Trm.shiftL_eq]
  have hcx : CellsG 4 (TrmR W2 W9.heap.size) (t.map (Trm.shift (rk k))) xs := hxs.mono fun y _ cs hy => TrmR.wider (by omega) _ _ (hy W2 fun b hb hp hlt => (h2 b (by omega) (by unfold PT; rw [h9 b (by omega)]; exact hp) (by omega)).trans (h9 b (by omega)))
  refine trmR_iff.2 ⟨_, _, rfl, ho, hn, (rowInts (by rw [← h.vlen]; exact hv2) h.ints).rebound (fun g hg => by have := hlv g hg; omega), (slC_of_row (by rw [← h.tlen]; exact ht2) hcx).rebound (fun g hg => by have := hlt g hg; omega)⟩
theorem info_termS : (Tryz.prog.info? 41).map (fun i => (i.zero, i.size, i.bytes)) = some (some (.agg #[.int .i64 0, .int .i64 0, .slice none 0 0, .slice none 0 0]), 4, 64) := by kernel_rfl
theorem bs_term (w : World) (x y : Int) (o1 o2 : Option Addr) (l1 c1 l2 c2 : Nat) : (Instr.buildSlice 39 1 #[(0, .agg #[.int .i64 x, .int .i64 y, .slice o1 l1 c1, .slice o2 l2 c2])]).run Tryz.prog w = .ok (.slice (some ⟨w.heap.size, 0, none⟩) 1 1) (w.alloc (.cells #[.int .i64 x, .int .i64 y, .slice o1 l1 c1, .slice o2 l2 c2] 41)) := by go_simp
/-- A call of a function of two arguments, which returns. -/
theorem wpList_callF2 {P : Program} {ops : Array Oper} {o : Oper} {a : Act} {w : World} {K : Act → World → Prop} {f : FuncId} {s s' : Nat} {ts : Array TypeId} {x x' : Value} {R : Ending → World → Prop} (hg : o.guard = none) (ho : o.op = .call { callee := .value (.func f), args := #[.tmp s, .tmp s'], argTypes := ts }) (hx : a.tmps.getD s undef = x) (hx' : a.tmps.getD s' undef = x') (hf : ∀ args w, (callFunc f args).run P w = .ok (.enter f args) w)
    (hc : Calls P f #[x, x'] w R) (hR : ∀ e w', R e w' → ∃ v, e = .returned v ∧ K (a.put o.dst v) w') : wpList P ops (fun e a' w' => e = .normal ∧ K a' w') [o] a w := by
  refine wpList_plain hg fun K' hK' => ?_
  have hev : a.eval (.tmp s) = x := hx
  have hev' : a.eval (.tmp s') = x' := hx'
  have hef : a.eval (.func f) = .func (.func f) #[] #[] := rfl
  have hrun : (execOp a.eval o).run P w = .ok (.enter f #[x, x']) w := by
    simp [execOp, ho, resolve, Deferred.ofValue, invoke, hev, hev', hef, hf]
  unfold Oper.wp
  rw [hrun]
  simp only [Oper.upon]
  refine hc.mono fun e w' h => ?_
  obtain ⟨v, rfl, hv⟩ := hR e w' h
  exact hK' _ _ ⟨rfl, hv⟩
/-- What the operations of the variables' append make. -/
def ShVR (base zb j : Nat) (lj : List Int) (x k : Int) (bsl vsl : Value) (ab ad : Addr) (S : Nat) (i : Nat) (v : Value) (W : World) : Prop := match i with
  | 0 => v = .pointer (some ⟨zb + 1 + 1, 2, none⟩)
  | 1 => v = bsl
  | 2 => v = .pointer (some ab)
  | 3 => v = vsl
  | 4 => v = .int .i64 j
  | 5 => v = .pointer (some ad)
  | 6 => v = .int .i64 x
  | 7 => v = .int .i64 k
  | 8 => v = .int .i64 (wrap64 (x + k))
  | 9 => ∃ b, v = .slice (some ⟨b, 0, none⟩) 1 1 ∧ BoxL W b 3 [.int .i64 (wrap64 (x + k))]
  | 10 => ∃ (g cap : Nat), v = .slice (some ⟨g, 0, none⟩) (j + 1) cap ∧ W.ownsRow base 3 1 (.slice (some ⟨g, 0, none⟩) (j + 1) cap) (j + 1) (lj.map (Value.int .i64) ++ ([.int .i64 (wrap64 (x + k))] : List Value)) ∧ (bsl.ownBlock = some g ∨ S ≤ g)
  | _ => True
theorem shVR_const {base zb j : Nat} {lj : List Int} {x k : Int} {bsl vsl : Value} {ab ad : Addr} {S : Nat} : ∀ i v (A C : World), i ≠ 10 → (i == 9) = false → ShVR base zb j lj x k bsl vsl ab ad S i v A → ShVR base zb j lj x k bsl vsl ab ad S i v C := by
  intro i v A C hi hu h
  match i, hi, hu, h with
  | 0, _, _, h | 1, _, _, h | 2, _, _, h | 3, _, _, h | 4, _, _, h | 5, _, _, h | 6, _, _, h | 7, _, _, h | 8, _, _, h | i + 11, _, _, h => exact h
theorem shVR_kept {base zb j : Nat} {lj : List Int} {x k : Int} {bsl vsl : Value} {ab ad : Addr} {S : Nat} : ∀ i v (A C : World), i = 9 → ShVR base zb j lj x k bsl vsl ab ad S i v A → Below A.heap.size A C → ShVR base zb j lj x k bsl vsl ab ad S i v C := by
  rintro i v A C rfl ⟨b, h1, h2⟩ hb
  exact ⟨b, h1, h2.keep hb⟩
theorem shVR_app {base zb j : Nat} {lj : List Int} {x k : Int} {bsl vsl : Value} {ab ad : Addr} {S : Nat} : ∀ v (A C : World), ShVR base zb j lj x k bsl vsl ab ad S 10 v A → Below A.heap.size A C → ShVR base zb j lj x k bsl vsl ab ad S 10 v C := by
  rintro v A C ⟨g, cap, h1, h2, h3⟩ hb
  exact ⟨g, cap, h1, ownsRow_keep h2 hb, h3⟩
/-- What the operations of the terms' append make. -/
def ShTR (base zb j : Nat) (xs : List Value) (x : Trm) (k : Int) (bsl tsl : Value) (ab ad : Addr) (av : Value) (S : Nat) (i : Nat) (v : Value) (W : World) : Prop := match i with
  | 0 => v = .pointer (some ⟨zb + 1 + 1, 3, none⟩)
  | 1 => v = bsl
  | 2 => v = .pointer (some ab)
  | 3 => v = tsl
  | 4 => v = .int .i64 j
  | 5 => v = .pointer (some ad)
  | 6 => v = av
  | 7 => v = .int .i64 k
  | 8 => ∃ (o n : Int) (ov ot : Option Addr) (lv cv lt ct : Nat), v = .agg #[.int .i64 o, .int .i64 n, .slice ov lv cv, .slice ot lt ct] ∧ TrmF W (fun b => S ≤ b) (x.shift (rk k)) [.int .i64 o, .int .i64 n, .slice ov lv cv, .slice ot lt ct]
  | 9 => ∃ (b : Nat) (o n : Int) (ov ot : Option Addr) (lv cv lt ct : Nat), v = .slice (some ⟨b, 0, none⟩) 1 1 ∧ BoxL W b 41 [.int .i64 o, .int .i64 n, .slice ov lv cv, .slice ot lt ct] ∧ TrmF W (fun b => S ≤ b) (x.shift (rk k)) [.int .i64 o, .int .i64 n, .slice ov lv cv, .slice ot lt ct]
  | 10 => ∃ (g cap : Nat) (o n : Int) (ov ot : Option Addr) (lv cv lt ct : Nat), v = .slice (some ⟨g, 0, none⟩) (j + 1) cap ∧ W.ownsRow base 41 4 (.slice (some ⟨g, 0, none⟩) (j + 1) cap) (j + 1) (xs ++ [.int .i64 o, .int .i64 n, .slice ov lv cv, .slice ot lt ct]) ∧ (bsl.ownBlock = some g ∨ S ≤ g) ∧ TrmF W (fun b => S ≤ b ∧ b ≠ g) (x.shift (rk k)) [.int .i64 o, .int .i64 n, .slice ov lv cv, .slice ot lt ct]
  | _ => True
theorem TrmF.below {W W' : World} {K : Nat → Prop} {x : Trm} {cs : List Value} (h : TrmF W K x cs) (hb : Below W.heap.size W W') : TrmF W' K x cs := h.keep hb.size (fun _ _ h => h) fun b _ _ hlt => hb.block b hlt
theorem shTR_const {base zb j : Nat} {xs : List Value} {x : Trm} {k : Int} {bsl tsl : Value} {ab ad : Addr} {av : Value} {S : Nat} (hS : ∀ b, bsl.ownBlock = some b → b < S) : ∀ i v (A C : World), i ≠ 10 → (i == 9) = false → ShTR base zb j xs x k bsl tsl ab ad av S i v A → Turned (fun b => bsl.ownBlock = some b) A C → ShTR base zb j xs x k bsl tsl ab ad av S i v C := by
  intro i v A C hi hu h ht
  match i, hi, hu, h with
  | 8, _, _, ⟨o, n, ov, ot, lv, cv, lt, ct, h1, h2⟩ => exact ⟨o, n, ov, ot, lv, cv, lt, ct, h1, h2.keep ht.size (fun _ _ h => h) fun b hb _ hlt => ht.block b hlt fun e => by have := hS b e; omega⟩
  | 0, _, _, h | 1, _, _, h | 2, _, _, h | 3, _, _, h | 4, _, _, h | 5, _, _, h | 6, _, _, h | 7, _, _, h | i + 11, _, _, h => exact h
theorem shTR_kept {base zb j : Nat} {xs : List Value} {x : Trm} {k : Int} {bsl tsl : Value} {ab ad : Addr} {av : Value} {S : Nat} : ∀ i v (A C : World), i = 9 → ShTR base zb j xs x k bsl tsl ab ad av S i v A → Below A.heap.size A C → ShTR base zb j xs x k bsl tsl ab ad av S i v C := by
  rintro i v A C rfl ⟨b, o, n, ov, ot, lv, cv, lt, ct, h1, h2, h3⟩ hb
  exact ⟨b, o, n, ov, ot, lv, cv, lt, ct, h1, h2.keep hb, h3.below hb⟩
theorem shTR_app {base zb j : Nat} {xs : List Value} {x : Trm} {k : Int} {bsl tsl : Value} {ab ad : Addr} {av : Value} {S : Nat} : ∀ v (A C : World), ShTR base zb j xs x k bsl tsl ab ad av S 10 v A → Below A.heap.size A C → ShTR base zb j xs x k bsl tsl ab ad av S 10 v C := by
  rintro v A C ⟨g, cap, o, n, ov, ot, lv, cv, lt, ct, h1, h2, h3, h4⟩ hb
  exact ⟨g, cap, o, n, ov, ot, lv, cv, lt, ct, h1, ownsRow_keep h2 hb, h3, h4.below hb⟩

set_option maxHeartbeats 16000000 in
set_option maxRecDepth 100000 in
theorem shift_any (k : Int) (_hk : 0 ≤ k ∧ k ≤ 1023) : ∀ (x : Trm) (c0 c1 c2 c3 : Value) (B : Nat) (w : World), TrmR w B x [c0, c1, c2, c3] → B ≤ w.heap.size → x.short → x.all ≤ 100000 →
    Calls Tryz.prog 18 #[.agg #[c0, c1, c2, c3], .int .i64 k] w (ShPost k x w) := by
  intro x
  induction x using Trm.ind with
  | _ o n v t ih =>
  intro c0 c1 c2 c3 B w hx hB hsh hall
  obtain ⟨vs, ts, he, ho, hn, hv, ht⟩ := trmR_iff.1 hx
  simp only [List.cons.injEq, and_true] at he
  obtain ⟨rfl, rfl, rfl, rfl⟩ := he
  clear hx
  obtain ⟨ov, lv, cv, rfl⟩ := hv.form
  obtain ⟨ot, lt, ct, rfl⟩ := SlC.form ht
  have HIH := Lib.hid ih
  have HV := Lib.hid hv
  have HT := Lib.hid ht
  have HLV := Lib.hid hv.lens.1
  have HLT := Lib.hid ht.lens.1
  have hlv := hv.lens.2
  have hlt := ht.lens.2
  obtain ⟨hs1, hs2⟩ := hsh
  have hsv : lv * 8 ≤ 140737488351232 := by rw [hv.lens.1]; exact hs1
  have HSH := Lib.hid (Trm.shortL_iff.1 hs2)
  have HALL := Lib.hid hall
  clear hv ht ih hs1 hs2 hall
  have hb3 := three_boxes (w := w) (A := [.int .i64 o, .int .i64 n, .slice ov lv cv, .slice ot lt ct]) (B := [.int .i64 0, .int .i64 0, .slice none 0 0, .slice none 0 0]) (C := [.int .i64 o, .int .i64 n, .slice none 0 0, .slice none 0 0]) (t := 41) (u := 41) (v := 41) (Below.refl _ _)
  have HI3 := Lib.hid (show ShI w (((w.alloc (.cells #[.int .i64 o, .int .i64 n, .slice ov lv cv, .slice ot lt ct] 41)).alloc (.cells #[.int .i64 0, .int .i64 0, .slice none 0 0, .slice none 0 0] 41)).alloc (.cells #[.int .i64 o, .int .i64 n, .slice none 0 0, .slice none 0 0] 41)) [.int .i64 o, .int .i64 n, .slice ov lv cv, .slice ot lt ct] o n (.slice none 0 0) (.slice none 0 0) [] [] 0 0 from ⟨hb3.1, hb3.2.1, hb3.2.2.1, World.ownsRow_nil _ _ _ _, rfl, fun _ h => by simp at h, ⟨[], World.ownsRow_nil _ _ _ _, rfl⟩, rfl, Turned.of_below hb3.2.2.2⟩)
  clear hb3
  go_enter Tryz.func18, Tryz.ntmps18
  go_upto_region 2 with fail
  obtain ⟨W3, hW3⟩ : ∃ W3, (((w.alloc (.cells #[.int .i64 o, .int .i64 n, .slice ov lv cv, .slice ot lt ct] 41)).alloc (.cells #[.int .i64 0, .int .i64 0, .slice none 0 0, .slice none 0 0] 41)).alloc (.cells #[.int .i64 o, .int .i64 n, .slice none 0 0, .slice none 0 0] 41)) = W3 := ⟨_, rfl⟩
  rw [hW3] at HI3 ⊢
  clear hW3
  obtain ⟨n5, hn5⟩ : ∃ n5, (if o = 1 ∨ o = 2 ∨ o = 14 then rk k n else n) = n5 := ⟨_, rfl⟩
  have HN5 := Lib.hid hn5
  clear hn5
  have HN6 := Lib.hid (show I64 n5 by
    rw [← HN5.out]
    split
    · rw [rk_i64 hn]; exact wrap_I64 _
    · exact hn)
  have a0 := HI3.out.x2.cell 0 rfl
  have a1 := HI3.out.x2.cell 1 rfl
  have al := HI3.out.x2.lt
  have c1 := HI3.out.x5.cell 1 rfl
  have cz := HI3.out.x5.free 1
  have cl := HI3.out.x5.lt
  have hc : (((o == 1) = true ∨ ((o == 1) = false ∧ ((o == 2) = true ∨ ((o == 2) = false ∧ (o == 14) = true)))) ∧ n5 = wrap64 (n + k)) ∨ (((o == 1) = false ∧ (o == 2) = false ∧ (o == 14) = false) ∧ n5 = n) := by
    by_cases h1 : o = 1
    · exact .inl ⟨.inl (by simp [h1]), by rw [← HN5.out, if_pos (.inl h1), rk_i64 hn]⟩
    by_cases h2 : o = 2
    · exact .inl ⟨.inr ⟨by simp [h1], .inl (by simp [h2])⟩, by rw [← HN5.out, if_pos (.inr (.inl h2)), rk_i64 hn]⟩
    by_cases h3 : o = 14
    · exact .inl ⟨.inr ⟨by simp [h1], .inr ⟨by simp [h2], by simp [h3]⟩⟩, by rw [← HN5.out, if_pos (.inr (.inr h3)), rk_i64 hn]⟩
    · exact .inr ⟨⟨by simp [h1], by simp [h2], by simp [h3]⟩, by rw [← HN5.out, if_neg (by rintro (h | h | h) <;> contradiction)]⟩
  rcases hc with ⟨hh, hn6⟩ | ⟨⟨h1, h2, h3⟩, hn6⟩
  · have HE := Lib.hid hn6
    clear hn6
    rcases hh with h1 | ⟨h1, h2 | ⟨h2, h3⟩⟩
    all_goals (go_upto_region 4 with fail)
    all_goals (obtain ⟨W4, hW4⟩ : ∃ W4, W3.setCell ⟨w.heap.size + 1 + 1, 1, none⟩ (.int .i64 (wrap64 (n + k))) = W4 := ⟨_, rfl⟩)
    all_goals (have HI4 := Lib.hid (show ShI w W4 [.int .i64 o, .int .i64 n, .slice ov lv cv, .slice ot lt ct] o n5 (.slice none 0 0) (.slice none 0 0) [] [] 0 0 by rw [← hW4, HE.out]; exact HI3.out.setN _))
    all_goals (rw [hW4]; clear hW4 a0 a1 al c1 cz cl HI3 HE)
    all_goals
      go_wp2_with fail
      go_loopg [6] lv (fun g i wr => ∃ (j : Nat) (vsl : Value), g = lv - j ∧ j ≤ lv ∧ i = .int .i64 j ∧ Hid (ShI w wr [.int .i64 o, .int .i64 n, .slice ov lv cv, .slice ot lt ct] o n5 vsl (.slice none 0 0) ((v.take j).map (rk k)) [] j 0))
      case atStart => exact ⟨0, .slice none 0 0, rfl, by omega, rfl, by simpa using HI4⟩
      case round =>
        obtain ⟨j, vsl, rfl, hj, rfl, HIJ⟩ := hrel
        have y2 := HIJ.out.x2.cell 2 rfl
        have yl := HIJ.out.x2.lt
        by_cases hjl : j < lv
        · obtain ⟨x, hx⟩ : ∃ x, v[j]? = some x := ⟨_, List.getElem?_eq_getElem (by rw [← HLV.out]; exact hjl)⟩
          obtain ⟨vb, voff, cs, ho, hvb, hcl, hcell, hir⟩ := HV.out.at (HIJ.out.turn.below (fun _ h => Nat.le_trans hB h) hB) hx
          subst ho
          obtain ⟨rfl, hxi⟩ := hir
          have e0 := hcell 0 _ rfl
          simp only [Nat.add_zero, Nat.mul_one] at e0
          obtain ⟨ob, cb2, rfl⟩ := HIJ.out.vform
          obtain ⟨lj, hlj⟩ : ∃ lj, (v.take j).map (rk k) = lj := ⟨_, rfl⟩
          rw [hlj] at HIJ
          have HVT := Lib.hid (show (v.take (j + 1)).map (rk k) = lj ++ [wrap64 (x + k)] by rw [List.take_add_one, hx, List.map_append, hlj]; simp [rk_i64 hxi])
          have HVC := Lib.hid e0
          clear hx hcell hlj e0
          go_upto_region 7 with fail
          clear y2 yl
          have HI5 := HIJ
          have hzr := HIJ.out.size
          have HXC := Lib.hid (show ∀ w1, Turned (fun b => (Value.slice ob j cb2).ownBlock = some b) wr w1 → w1.cell? ⟨vb, voff + j, none⟩ = some (.int .i64 x) from fun w1 h => ((h.below (b0 := B) (fun b hb => by have := own_base HIJ.out.vrow b hb; omega) (by omega)).cell (p := ⟨vb, voff + j, none⟩) hvb).trans HVC.out)
          have HD5 := Lib.hid ((Below.refl wr.heap.size wr).drew)
          refine wp_region_turnT 11 10 (fun i => i == 9) (ShVR (w.heap.size + 3) w.heap.size j lj x k (.slice ob j cb2) (.slice (some ⟨vb, voff, none⟩) lv cv) ⟨w.heap.size, 2, none⟩ ⟨vb, voff + j, none⟩ wr.heap.size) (fun A C => Turned (fun b => (Value.slice ob j cb2).ownBlock = some b) A C) (fun A C => Below A.heap.size A C) (by kernel_rfl) (by show turnT _ 11 70 10 _ = true; kernel_rfl) (fun h k => h.next k) (fun h k => Below.next h k) (fun _ k => Turned.of_below k) (Turned.refl _ _) (Below.refl _ _) (fun i v A C hi hu h _ => shVR_const i v A C hi hu h) (fun i v A C hu h hb => shVR_kept i v A C (by simpa using hu) h hb) (fun v A C h hb => shVR_app v A C h hb) ?hops ?hend
          case hops =>
            intro i o hi ho a w1 hdf hsz hex hpre hdep hrest
            have HX := Lib.hid (show Turned (fun b => (Value.slice ob j cb2).ownBlock = some b) wr w1 from (Turned.of_below HD5.out).next hex)
            match i, hi with
            | 0, _ =>
              obtain rfl : _ = o := Option.some.inj ho
              have h5 : a.tmps.getD 5 undef = .pointer (some ⟨w.heap.size + 1 + 1, 0, none⟩) := hrest.at 5 (by kernel_rfl)
              exact wpList_value (v := .pointer (some ⟨w.heap.size + 1 + 1, 2, none⟩)) (w' := w1) rfl (by go_simp) ⟨rfl, _, rfl, rfl, Below.refl _ _⟩
            | 1, _ =>
              obtain rfl : _ = o := Option.some.inj ho
              have h38 : a.tmps.getD 38 undef = .pointer (some ⟨w.heap.size + 1 + 1, 2, none⟩) := dep_at hdep 0 38 (by kernel_rfl)
              have hbx := HX.out.box HI5.out.x5 (fun e => by have := own_base HI5.out.vrow (w.heap.size + 1 + 1) e; omega)
              have c2 := hbx.cell 2 rfl
              have cl := hbx.lt
              exact wpList_value (v := .slice ob j cb2) (w' := w1) rfl (by go_simp) ⟨rfl, _, rfl, rfl, Below.refl _ _⟩
            | 2, _ =>
              obtain rfl : _ = o := Option.some.inj ho
              have h2 : a.tmps.getD 2 undef = .pointer (some ⟨w.heap.size, 0, none⟩) := hrest.at 2 (by kernel_rfl)
              exact wpList_value (v := .pointer (some ⟨w.heap.size, 2, none⟩)) (w' := w1) rfl (by go_simp) ⟨rfl, _, rfl, rfl, Below.refl _ _⟩
            | 3, _ =>
              obtain rfl : _ = o := Option.some.inj ho
              have h40 : a.tmps.getD 40 undef = .pointer (some ⟨w.heap.size, 2, none⟩) := dep_at hdep 2 40 (by kernel_rfl)
              have hbx := HX.out.box HI5.out.x2 (fun e => by have := own_base HI5.out.vrow w.heap.size e; omega)
              have c2 := hbx.cell 2 rfl
              have cl := hbx.lt
              exact wpList_value (v := .slice (some ⟨vb, voff, none⟩) lv cv) (w' := w1) rfl (by go_simp) ⟨rfl, _, rfl, rfl, Below.refl _ _⟩
            | 4, _ =>
              obtain rfl : _ = o := Option.some.inj ho
              have h6 : a.tmps.getD 6 undef = .int .i64 j := hrest.at 6 (by kernel_rfl)
              exact wpList_value (v := .int .i64 j) (w' := w1) rfl (by go_simp) ⟨rfl, _, rfl, rfl, Below.refl _ _⟩
            | 5, _ =>
              obtain rfl : _ = o := Option.some.inj ho
              have h41 : a.tmps.getD 41 undef = .slice (some ⟨vb, voff, none⟩) lv cv := dep_at hdep 3 41 (by kernel_rfl)
              have h42 : a.tmps.getD 42 undef = .int .i64 j := dep_at hdep 4 42 (by kernel_rfl)
              exact wpList_value (v := .pointer (some ⟨vb, voff + j, none⟩)) (w' := w1) rfl (by go_simp) ⟨rfl, _, rfl, rfl, Below.refl _ _⟩
            | 6, _ =>
              obtain rfl : _ = o := Option.some.inj ho
              have h43 : a.tmps.getD 43 undef = .pointer (some ⟨vb, voff + j, none⟩) := dep_at hdep 5 43 (by kernel_rfl)
              have hxc := HXC.out w1 HX.out
              have hxl := cell_lt hxc
              exact wpList_value (v := .int .i64 x) (w' := w1) rfl (by go_simp) ⟨rfl, _, rfl, rfl, Below.refl _ _⟩
            | 7, _ =>
              obtain rfl : _ = o := Option.some.inj ho
              have h1 : a.tmps.getD 1 undef = .int .i64 k := hrest.at 1 (by kernel_rfl)
              exact wpList_value (v := .int .i64 k) (w' := w1) rfl (by go_simp) ⟨rfl, _, rfl, rfl, Below.refl _ _⟩
            | 8, _ =>
              obtain rfl : _ = o := Option.some.inj ho
              have h44 : a.tmps.getD 44 undef = .int .i64 x := dep_at hdep 6 44 (by kernel_rfl)
              have h45 : a.tmps.getD 45 undef = .int .i64 k := dep_at hdep 7 45 (by kernel_rfl)
              exact wpList_value (v := .int .i64 (wrap64 (x + k))) (w' := w1) rfl (by go_simp; exact wrap64_is _) ⟨rfl, _, rfl, rfl, Below.refl _ _⟩
            | 9, _ =>
              obtain rfl : _ = o := Option.some.inj ho
              have h46 : a.tmps.getD 46 undef = .int .i64 (wrap64 (x + k)) := dep_at hdep 8 46 (by kernel_rfl)
              exact wpList_bs1 (v := .slice (some ⟨w1.heap.size, 0, none⟩) 1 1) (w' := w1.alloc (.cells #[.int .i64 (wrap64 (x + k))] 3)) rfl rfl h46 (bs_int _ _) ⟨rfl, _, rfl, ⟨_, rfl, BoxL.new rfl _ _⟩, Below.one _ _⟩
            | 10, _ =>
              obtain rfl : _ = o := Option.some.inj ho
              have h39 : a.tmps.getD 39 undef = .slice ob j cb2 := dep_at hdep 1 39 (by kernel_rfl)
              obtain ⟨b9, h47, hb9⟩ : ∃ b, a.tmps.getD 47 undef = .slice (some ⟨b, 0, none⟩) 1 1 ∧ BoxL w1 b 3 [.int .i64 (wrap64 (x + k))] := dep_at hdep 9 47 (by kernel_rfl)
              have hrow : w1.ownsRow (w.heap.size + 3) 3 1 (.slice ob j cb2) j (lj.map (Value.int .i64)) := ownsRow_keep HI5.out.vrow (Below.next HD5.out (hpre rfl))
              obtain ⟨i0, hi0, hz0, hz1, hz2⟩ := info_parts info_int
              have hzz := HI5.out.size
              refine wpList_append_lies w1 rfl (.tmp 39) (.tmp 47) 32 rfl (w.heap.size + 3) 3 i0 (.int .i64 0) 1 8 Tryz.underlying32 hi0 hz0 hz1 hz2 rfl (by decide) (.slice ob j cb2) j (lj.map (Value.int .i64)) h39 hrow ⟨b9, 0, none⟩ 1 1 [.int .i64 (wrap64 (x + k))] h47 rfl (box_cells hb9) (by intro u hu; simp only [List.mem_cons, List.not_mem_nil, or_false] at hu; subst hu; rfl) (by decide) (by unfold maxLen; omega) (by omega) (by have := HX.out.size; omega) w1.heap.size rfl ?_
              intro g cap w7 hown7 hgr7 hlie7 hlt7
              exact ⟨rfl, _, rfl, ⟨g, cap, rfl, hown7, hlie7.imp id (fun e => by have := HX.out.size; omega)⟩, Turned.grown hgr7 (fun _ h => h)⟩
          case hend =>
            intro a w1 hdf hsz hex hval hrest
            obtain ⟨g, cap, h48, hown, hlie⟩ : ∃ (g cap : Nat), a.tmps.getD 48 undef = .slice (some ⟨g, 0, none⟩) (j + 1) cap ∧ w1.ownsRow (w.heap.size + 3) 3 1 (.slice (some ⟨g, 0, none⟩) (j + 1) cap) (j + 1) (lj.map (Value.int .i64) ++ ([.int .i64 (wrap64 (x + k))] : List Value)) ∧ ((Value.slice ob j cb2).ownBlock = some g ∨ wr.heap.size ≤ g) := hval 10 _ 48 (by omega) rfl rfl rfl
            obtain ⟨f, ha, hf⟩ := act_spell [false, false, false, false, false, false, false, false, false, false, false, false, false, false, false, false, false, false, false, false, false, false, false, false, false, false, false, false, false, false, false, false, false, false, false, false, false, false, true, true, true, true, true, true, true, true, true, true, true] (by kernel_rfl) hdf hsz hrest
            rw [← hf] at h48
            subst ha
            have HX := Lib.hid (show Turned (fun b => (Value.slice ob j cb2).ownBlock = some b) wr w1 from (Turned.of_below HD5.out).next hex)
            clear hval hrest hf hex hdf hsz
            have hbx := HX.out.box HI5.out.x5 (fun e => by have := own_base HI5.out.vrow (w.heap.size + 1 + 1) e; omega)
            have c2 := hbx.cell 2 rfl
            have cz := hbx.free 2
            have cl := hbx.lt
            have HN5 := Lib.hid (HI5.out.vnext HX.out hown (wrap_I64 _))
            clear hbx hown
            simp only [spell, h48, List.drop_succ_cons, List.drop_zero]
            go_wp2_with fail
            go_roundg (lv - (j + 1))
            case measure => omega
            case rel => exact ⟨j + 1, .slice (some ⟨g, 0, none⟩) (j + 1) cap, rfl, by omega, by go_num, by rw [HVT.out]; exact HN5⟩
        · obtain rfl : lv = j := by omega
          have hvt : v.take lv = v := List.take_of_length_le (by rw [← HLV.out]; exact Nat.le_refl _)
          rw [hvt] at HIJ
          clear hvt
          go_wp2_with fail
          clear y2 yl
          go_loopg [7] lt (fun g i wr => ∃ (j : Nat) (tsl : Value), g = lt - j ∧ j ≤ lt ∧ i = .int .i64 j ∧ Hid (ShI w wr [.int .i64 o, .int .i64 n, .slice ov lv cv, .slice ot lt ct] o n5 vsl tsl (v.map (rk k)) ((t.take j).map (Trm.shift (rk k))) lv j))
          case atStart => exact ⟨0, .slice none 0 0, rfl, by omega, rfl, by simpa using HIJ⟩
          case round =>
            obtain ⟨j, tsl, rfl, hj, rfl, HI5⟩ := hrel
            have y3 := HI5.out.x2.cell 3 rfl
            have yl := HI5.out.x2.lt
            by_cases hjl : j < lt
            · obtain ⟨x, hx⟩ : ∃ x, t[j]? = some x := ⟨_, List.getElem?_eq_getElem (by rw [← HLT.out]; exact hjl)⟩
              have hbr : Below B w wr := HI5.out.turn.below (fun _ h => Nat.le_trans hB h) hB
              obtain ⟨vb, voff, cs, ho, hvb, hcl, hcell, hir⟩ := SlC.at HT.out hbr hx
              subst ho
              have HXM := Lib.hid (List.mem_of_getElem? hx)
              have HXS := Lib.hid (HSH.out x HXM.out)
              have HXA := Lib.hid (show x.all ≤ 100000 by
                have h1 := HALL.out
                have h2 := Trm.allL_mem HXM.out
                rw [Trm.all] at h1
                omega)
              have hjb : lt ≤ 100000 := by
                have h1 := HALL.out
                have h2 := Trm.allL_length t
                rw [Trm.all] at h1
                rw [HLT.out]
                omega
              match cs, hcl with
              | [d0, d1, d2, d3], _ =>
              obtain ⟨q1, l1, k1, q2, l2, k2, rfl, rfl, rfl, rfl⟩ := trm_form hir
              have HXR := Lib.hid (TrmR.kept hbr _ _ hir)
              have HXC := Lib.hid (show ∀ w1, Turned (fun b => tsl.ownBlock = some b) wr w1 → w1.cell? ⟨vb, voff + j * 4, none⟩ = some (.int .i64 x.op) ∧ w1.cell? ⟨vb, voff + j * 4 + 1, none⟩ = some (.int .i64 x.n) ∧ w1.cell? ⟨vb, voff + j * 4 + 2, none⟩ = some (.slice q1 l1 k1) ∧ w1.cell? ⟨vb, voff + j * 4 + 3, none⟩ = some (.slice q2 l2 k2) from fun w1 h => by
                have hb : Below B wr w1 := h.below (b0 := B) (fun b hb => by
                  obtain ⟨xs, hr, _⟩ := HI5.out.trow
                  have := own_base hr b hb
                  omega) (by have := HI5.out.size; omega)
                exact ⟨(hb.cell (p := ⟨vb, voff + j * 4, none⟩) hvb).trans (hcell 0 _ rfl), (hb.cell (p := ⟨vb, voff + j * 4 + 1, none⟩) hvb).trans (hcell 1 _ rfl), (hb.cell (p := ⟨vb, voff + j * 4 + 2, none⟩) hvb).trans (hcell 2 _ rfl), (hb.cell (p := ⟨vb, voff + j * 4 + 3, none⟩) hvb).trans (hcell 3 _ rfl)⟩)
              obtain ⟨ob, cb2, rfl⟩ := HI5.out.tform
              obtain ⟨lj, hlj⟩ : ∃ lj, (t.take j).map (Trm.shift (rk k)) = lj := ⟨_, rfl⟩
              rw [hlj] at HI5
              have HTT := Lib.hid (show (t.take (j + 1)).map (Trm.shift (rk k)) = lj ++ [x.shift (rk k)] by rw [List.take_add_one, hx, List.map_append, hlj]; rfl)
              obtain ⟨xs, hr, hxs⟩ := HI5.out.trow
              have HR5 := Lib.hid hr
              have HXS5 := Lib.hid hxs
              have HOLD := Lib.hid (show ∀ b, (Value.slice ob j cb2).ownBlock = some b → b < wr.heap.size from fun b hb => by
                obtain ⟨cs, f, hc⟩ := own_row hr b hb
                exact (Array.getElem?_eq_some_iff.1 hc).1)
              have hzr := HI5.out.size
              clear hx hcell hlj hr hxs hir
              go_upto_region 11 with fail
              clear y3 yl
              have HD5 := Lib.hid ((Below.refl wr.heap.size wr).drew)
              refine wp_region_turnT 11 10 (fun i => i == 9) (ShTR (w.heap.size + 3) w.heap.size j xs x k (.slice ob j cb2) (.slice (some ⟨vb, voff, none⟩) lt ct) ⟨w.heap.size, 3, none⟩ ⟨vb, voff + j * 4, none⟩ (.agg #[.int .i64 x.op, .int .i64 x.n, .slice q1 l1 k1, .slice q2 l2 k2]) wr.heap.size) (fun A C => Turned (fun b => (Value.slice ob j cb2).ownBlock = some b) A C) (fun A C => Below A.heap.size A C) (by kernel_rfl) (by show turnT _ 11 70 10 _ = true; kernel_rfl) (fun h k => h.next k) (fun h k => Below.next h k) (fun _ k => Turned.of_below k) (Turned.refl _ _) (Below.refl _ _) (fun i v A C hi hu h ht => shTR_const HOLD.out i v A C hi hu h ht) (fun i v A C hu h hb => shTR_kept i v A C (by simpa using hu) h hb) (fun v A C h hb => shTR_app v A C h hb) ?hops ?hend
              case hops =>
                intro i o hi ho a w1 hdf hsz hex hpre hdep hrest
                have HX := Lib.hid (show Turned (fun b => (Value.slice ob j cb2).ownBlock = some b) wr w1 from (Turned.of_below HD5.out).next hex)
                match i, hi with
                | 0, _ =>
                  obtain rfl : _ = o := Option.some.inj ho
                  have h5 : a.tmps.getD 5 undef = .pointer (some ⟨w.heap.size + 1 + 1, 0, none⟩) := hrest.at 5 (by kernel_rfl)
                  exact wpList_value (v := .pointer (some ⟨w.heap.size + 1 + 1, 3, none⟩)) (w' := w1) rfl (by go_simp) ⟨rfl, _, rfl, rfl, Below.refl _ _⟩
                | 1, _ =>
                  obtain rfl : _ = o := Option.some.inj ho
                  have h57 : a.tmps.getD 57 undef = .pointer (some ⟨w.heap.size + 1 + 1, 3, none⟩) := dep_at hdep 0 57 (by kernel_rfl)
                  have hbx := HX.out.box HI5.out.x5 (fun e => by have := own_base HR5.out (w.heap.size + 1 + 1) e; omega)
                  have c2 := hbx.cell 3 rfl
                  have cl := hbx.lt
                  exact wpList_value (v := .slice ob j cb2) (w' := w1) rfl (by go_simp) ⟨rfl, _, rfl, rfl, Below.refl _ _⟩
                | 2, _ =>
                  obtain rfl : _ = o := Option.some.inj ho
                  have h2 : a.tmps.getD 2 undef = .pointer (some ⟨w.heap.size, 0, none⟩) := hrest.at 2 (by kernel_rfl)
                  exact wpList_value (v := .pointer (some ⟨w.heap.size, 3, none⟩)) (w' := w1) rfl (by go_simp) ⟨rfl, _, rfl, rfl, Below.refl _ _⟩
                | 3, _ =>
                  obtain rfl : _ = o := Option.some.inj ho
                  have h59 : a.tmps.getD 59 undef = .pointer (some ⟨w.heap.size, 3, none⟩) := dep_at hdep 2 59 (by kernel_rfl)
                  have hbx := HX.out.box HI5.out.x2 (fun e => by have := own_base HR5.out w.heap.size e; omega)
                  have c2 := hbx.cell 3 rfl
                  have cl := hbx.lt
                  exact wpList_value (v := .slice (some ⟨vb, voff, none⟩) lt ct) (w' := w1) rfl (by go_simp) ⟨rfl, _, rfl, rfl, Below.refl _ _⟩
                | 4, _ =>
                  obtain rfl : _ = o := Option.some.inj ho
                  have h7 : a.tmps.getD 7 undef = .int .i64 j := hrest.at 7 (by kernel_rfl)
                  exact wpList_value (v := .int .i64 j) (w' := w1) rfl (by go_simp) ⟨rfl, _, rfl, rfl, Below.refl _ _⟩
                | 5, _ =>
                  obtain rfl : _ = o := Option.some.inj ho
                  have h60 : a.tmps.getD 60 undef = .slice (some ⟨vb, voff, none⟩) lt ct := dep_at hdep 3 60 (by kernel_rfl)
                  have h61 : a.tmps.getD 61 undef = .int .i64 j := dep_at hdep 4 61 (by kernel_rfl)
                  exact wpList_value (v := .pointer (some ⟨vb, voff + j * 4, none⟩)) (w' := w1) rfl (by go_simp) ⟨rfl, _, rfl, rfl, Below.refl _ _⟩
                | 6, _ =>
                  obtain rfl : _ = o := Option.some.inj ho
                  have h62 : a.tmps.getD 62 undef = .pointer (some ⟨vb, voff + j * 4, none⟩) := dep_at hdep 5 62 (by kernel_rfl)
                  obtain ⟨z0, z1, z2, z3⟩ := HXC.out w1 HX.out
                  have hxl := cell_lt z0
                  exact wpList_value (v := .agg #[.int .i64 x.op, .int .i64 x.n, .slice q1 l1 k1, .slice q2 l2 k2]) (w' := w1) rfl (by go_simp) ⟨rfl, _, rfl, rfl, Below.refl _ _⟩
                | 7, _ =>
                  obtain rfl : _ = o := Option.some.inj ho
                  have h1 : a.tmps.getD 1 undef = .int .i64 k := hrest.at 1 (by kernel_rfl)
                  exact wpList_value (v := .int .i64 k) (w' := w1) rfl (by go_simp) ⟨rfl, _, rfl, rfl, Below.refl _ _⟩
                | 8, _ =>
                  obtain rfl : _ = o := Option.some.inj ho
                  have h63 : a.tmps.getD 63 undef = .agg #[.int .i64 x.op, .int .i64 x.n, .slice q1 l1 k1, .slice q2 l2 k2] := dep_at hdep 6 63 (by kernel_rfl)
                  have h64 : a.tmps.getD 64 undef = .int .i64 k := dep_at hdep 7 64 (by kernel_rfl)
                  refine wpList_callF2 rfl rfl h63 h64 (fun _ _ => rfl) (HIH.out x HXM.out _ _ _ _ B w1 (HXR.out.kept (HX.out.below (fun b hb => by have := own_base HR5.out b hb; omega) (by omega)) _ _) (by have := HX.out.size; omega) HXS.out HXA.out) ?_
                  rintro e w8 ⟨o8, n8, ov8, ot8, lv8, cv8, lt8, ct8, rfl, h8, hb8⟩
                  exact ⟨_, rfl, _, rfl, ⟨o8, n8, ov8, ot8, lv8, cv8, lt8, ct8, rfl, h8.keep (Nat.le_refl _) (fun b _ hb => Nat.le_trans HX.out.size hb) (fun _ _ _ _ => rfl)⟩, hb8⟩
                | 9, _ =>
                  obtain rfl : _ = o := Option.some.inj ho
                  obtain ⟨o8, n8, ov8, ot8, lv8, cv8, lt8, ct8, h65, h8⟩ : ∃ (o n : Int) (ov ot : Option Addr) (lv cv lt ct : Nat), a.tmps.getD 65 undef = .agg #[.int .i64 o, .int .i64 n, .slice ov lv cv, .slice ot lt ct] ∧ TrmF w1 (fun b => wr.heap.size ≤ b) (x.shift (rk k)) [.int .i64 o, .int .i64 n, .slice ov lv cv, .slice ot lt ct] := dep_at hdep 8 65 (by kernel_rfl)
                  exact wpList_bs1 (v := .slice (some ⟨w1.heap.size, 0, none⟩) 1 1) (w' := w1.alloc (.cells #[.int .i64 o8, .int .i64 n8, .slice ov8 lv8 cv8, .slice ot8 lt8 ct8] 41)) rfl rfl h65 (bs_term _ _ _ _ _ _ _ _ _) ⟨rfl, _, rfl, ⟨_, o8, n8, ov8, ot8, lv8, cv8, lt8, ct8, rfl, BoxL.new rfl _ _, h8.below (Below.one _ _)⟩, Below.one _ _⟩
                | 10, _ =>
                  obtain rfl : _ = o := Option.some.inj ho
                  have h58 : a.tmps.getD 58 undef = .slice ob j cb2 := dep_at hdep 1 58 (by kernel_rfl)
                  obtain ⟨b9, o8, n8, ov8, ot8, lv8, cv8, lt8, ct8, h66, hb9, h8⟩ : ∃ (b : Nat) (o n : Int) (ov ot : Option Addr) (lv cv lt ct : Nat), a.tmps.getD 66 undef = .slice (some ⟨b, 0, none⟩) 1 1 ∧ BoxL w1 b 41 [.int .i64 o, .int .i64 n, .slice ov lv cv, .slice ot lt ct] ∧ TrmF w1 (fun b => wr.heap.size ≤ b) (x.shift (rk k)) [.int .i64 o, .int .i64 n, .slice ov lv cv, .slice ot lt ct] := dep_at hdep 9 66 (by kernel_rfl)
                  have hrow : w1.ownsRow (w.heap.size + 3) 41 4 (.slice ob j cb2) j xs := ownsRow_keep HR5.out (Below.next HD5.out (hpre rfl))
                  obtain ⟨i0, hi0, hz0, hz1, hz2⟩ := info_parts info_termS
                  have hzz := HI5.out.size
                  have HOL := HOLD.out
                  refine wpList_append_lies w1 rfl (.tmp 58) (.tmp 66) 39 rfl (w.heap.size + 3) 41 i0 (.agg #[.int .i64 0, .int .i64 0, .slice none 0 0, .slice none 0 0]) 4 64 Tryz.underlying39 hi0 hz0 hz1 hz2 rfl (by decide) (.slice ob j cb2) j xs h58 hrow ⟨b9, 0, none⟩ 1 1 [.int .i64 o8, .int .i64 n8, .slice ov8 lv8 cv8, .slice ot8 lt8 ct8] h66 rfl (box_cells hb9) (by intro u hu; simp only [List.mem_cons, List.not_mem_nil, or_false] at hu; rcases hu with rfl | rfl | rfl | rfl <;> rfl) (by decide) (by unfold maxLen; omega) (by omega) (by have := HX.out.size; omega) w1.heap.size rfl ?_
                  intro g cap w7 hown7 hgr7 hlie7 hlt7
                  have hT7 : Turned (fun b => (Value.slice ob j cb2).ownBlock = some b) w1 w7 := Turned.grown hgr7 (fun _ h => h)
                  refine ⟨rfl, _, rfl, ⟨g, cap, o8, n8, ov8, ot8, lv8, cv8, lt8, ct8, rfl, hown7, hlie7.imp id (fun e => by have := HX.out.size; omega), h8.keep hT7.size (fun b hlt hb => ⟨hb, fun e => ?_⟩) (fun b hb _ hlt => hT7.block b hlt fun e => by have := HOL b e; omega)⟩, hT7⟩
                  subst e
                  rcases hlie7 with h | h
                  · have := HOL _ h; omega
                  · omega
              case hend =>
                intro a w1 hdf hsz hex hval hrest
                obtain ⟨g, cap, o8, n8, ov8, ot8, lv8, cv8, lt8, ct8, h67, hown, hlie, h8⟩ : ∃ (g cap : Nat) (o n : Int) (ov ot : Option Addr) (lv cv lt ct : Nat), a.tmps.getD 67 undef = .slice (some ⟨g, 0, none⟩) (j + 1) cap ∧ w1.ownsRow (w.heap.size + 3) 41 4 (.slice (some ⟨g, 0, none⟩) (j + 1) cap) (j + 1) (xs ++ ([.int .i64 o, .int .i64 n, .slice ov lv cv, .slice ot lt ct] : List Value)) ∧ ((Value.slice ob j cb2).ownBlock = some g ∨ wr.heap.size ≤ g) ∧ TrmF w1 (fun b => wr.heap.size ≤ b ∧ b ≠ g) (x.shift (rk k)) [.int .i64 o, .int .i64 n, .slice ov lv cv, .slice ot lt ct] := hval 10 _ 67 (by omega) rfl rfl rfl
                obtain ⟨f, ha, hf⟩ := act_spell [false, false, false, false, false, false, false, false, false, false, false, false, false, false, false, false, false, false, false, false, false, false, false, false, false, false, false, false, false, false, false, false, false, false, false, false, false, false, false, false, false, false, false, false, false, false, false, false, false, false, false, false, false, false, false, false, false, true, true, true, true, true, true, true, true, true, true, true] (by kernel_rfl) hdf hsz hrest
                rw [← hf] at h67
                subst ha
                have HX := Lib.hid (show Turned (fun b => (Value.slice ob j cb2).ownBlock = some b) wr w1 from (Turned.of_below HD5.out).next hex)
                clear hval hrest hf hex hdf hsz
                have hbx := HX.out.box HI5.out.x5 (fun e => by have := own_base HR5.out (w.heap.size + 1 + 1) e; omega)
                have c2 := hbx.cell 3 rfl
                have cz := hbx.free 3
                have cl := hbx.lt
                have HN5 := Lib.hid (HI5.out.tnext HX.out hown HXS5.out hlie h8)
                clear hbx hown h8
                simp only [spell, h67, List.drop_succ_cons, List.drop_zero]
                go_wp2_with fail
                go_roundg (lt - (j + 1))
                case measure => omega
                case rel => exact ⟨j + 1, .slice (some ⟨g, 0, none⟩) (j + 1) cap, rfl, by omega, by go_num, by rw [HTT.out]; exact HN5⟩
            · obtain rfl : lt = j := by omega
              have hvt : t.take lt = t := List.take_of_length_le (by rw [← HLT.out]; exact Nat.le_refl _)
              rw [hvt] at HI5
              clear hvt
              obtain ⟨ob, cb2, rfl⟩ := HI5.out.tform
              obtain ⟨obv, cbv, rfl⟩ := HI5.out.vform
              have f0 := HI5.out.x5.cell 0 rfl
              have f1 := HI5.out.x5.cell 1 rfl
              have f2 := HI5.out.x5.cell 2 rfl
              have f3 := HI5.out.x5.cell 3 rfl
              have fl := HI5.out.x5.lt
              have g0 := HI5.out.x4.cell 0 rfl
              have g1 := HI5.out.x4.cell 1 rfl
              have g2 := HI5.out.x4.cell 2 rfl
              have g3 := HI5.out.x4.cell 3 rfl
              have gf0 := HI5.out.x4.free 0
              have gf1 := HI5.out.x4.free 1
              have gf2 := HI5.out.x4.free 2
              have gf3 := HI5.out.x4.free 3
              have gl := HI5.out.x4.lt
              go_wp2_with fail
              obtain ⟨W9, hW9⟩ : ∃ W9, ((((wr.setCell ⟨w.heap.size + 1, 0, none⟩ (.int .i64 o)).setCell ⟨w.heap.size + 1, 1, none⟩ (.int .i64 n5)).setCell ⟨w.heap.size + 1, 2, none⟩ (.slice obv lv cbv)).setCell ⟨w.heap.size + 1, 3, none⟩ (.slice ob lt cb2)) = W9 := ⟨_, rfl⟩
              have hx9 : BoxL W9 (w.heap.size + 1) 41 [.int .i64 o, .int .i64 n5, .slice obv lv cbv, .slice ob lt cb2] := hW9 ▸ (((HI5.out.x4.set 0 _).set 1 _).set 2 _).set 3 _
              have h9 : ∀ b, b ≠ w.heap.size + 1 → W9.heap[b]? = wr.heap[b]? := fun b hb => by
                rw [← hW9]
                exact (setCell_heap_other _ _ _ hb).trans ((setCell_heap_other _ _ _ hb).trans ((setCell_heap_other _ _ _ hb).trans (setCell_heap_other _ _ _ hb)))
              have hs9 : W9.heap.size = wr.heap.size := by rw [← hW9]; simp only [World.size_setCell]
              have HT9 := Lib.hid (show Turned (fun b => w.heap.size ≤ b) wr W9 from by
                rw [← hW9]
                exact (((Turned.set _ _ _ (by show w.heap.size ≤ w.heap.size + 1; omega)).next (Turned.set _ _ _ (by show w.heap.size ≤ w.heap.size + 1; omega))).next (Turned.set _ _ _ (by show w.heap.size ≤ w.heap.size + 1; omega))).next (Turned.set _ _ _ (by show w.heap.size ≤ w.heap.size + 1; omega)))
              have HD9 := Lib.hid (HI5.out.done h9 hs9 ho HN6.out HN5.out)
              have r0 := hx9.cell 0 rfl
              have r1 := hx9.cell 1 rfl
              have r2 := hx9.cell 2 rfl
              have r3 := hx9.cell 3 rfl
              rw [hW9]
              clear hx9 h9 hs9 hW9 f0 f1 f2 f3 fl g0 g1 g2 g3 gf0 gf1 gf2 gf3 gl
              refine bodyPost_ret (v := .agg #[.int .i64 o, .int .i64 n5, .slice obv lv cbv, .slice ob lt cb2]) (by simp [results, Tryz.results18, go_sem, r0, r1, r2, r3]) rfl ?_
              exact ⟨o, n5, obv, ob, lv, cbv, lt, cb2, rfl, HD9.out, (HI5.out.turn.next HT9.out).below (fun _ h => h) (Nat.le_refl _)⟩
  · have HE := Lib.hid hn6
    clear hn6
    go_upto_region 4 with fail
    obtain ⟨W4, hW4⟩ : ∃ W4, W3 = W4 := ⟨_, rfl⟩
    have HI4 := Lib.hid (show ShI w W4 [.int .i64 o, .int .i64 n, .slice ov lv cv, .slice ot lt ct] o n5 (.slice none 0 0) (.slice none 0 0) [] [] 0 0 by rw [← hW4, HE.out]; exact HI3.out)
    rw [hW4]
    clear hW4 a0 a1 al c1 cz cl HI3 HE
    go_wp2_with fail
    go_loopg [6] lv (fun g i wr => ∃ (j : Nat) (vsl : Value), g = lv - j ∧ j ≤ lv ∧ i = .int .i64 j ∧ Hid (ShI w wr [.int .i64 o, .int .i64 n, .slice ov lv cv, .slice ot lt ct] o n5 vsl (.slice none 0 0) ((v.take j).map (rk k)) [] j 0))
    case atStart => exact ⟨0, .slice none 0 0, rfl, by omega, rfl, by simpa using HI4⟩
    case round =>
      obtain ⟨j, vsl, rfl, hj, rfl, HIJ⟩ := hrel
      have y2 := HIJ.out.x2.cell 2 rfl
      have yl := HIJ.out.x2.lt
      by_cases hjl : j < lv
      · obtain ⟨x, hx⟩ : ∃ x, v[j]? = some x := ⟨_, List.getElem?_eq_getElem (by rw [← HLV.out]; exact hjl)⟩
        obtain ⟨vb, voff, cs, ho, hvb, hcl, hcell, hir⟩ := HV.out.at (HIJ.out.turn.below (fun _ h => Nat.le_trans hB h) hB) hx
        subst ho
        obtain ⟨rfl, hxi⟩ := hir
        have e0 := hcell 0 _ rfl
        simp only [Nat.add_zero, Nat.mul_one] at e0
        obtain ⟨ob, cb2, rfl⟩ := HIJ.out.vform
        obtain ⟨lj, hlj⟩ : ∃ lj, (v.take j).map (rk k) = lj := ⟨_, rfl⟩
        rw [hlj] at HIJ
        have HVT := Lib.hid (show (v.take (j + 1)).map (rk k) = lj ++ [wrap64 (x + k)] by rw [List.take_add_one, hx, List.map_append, hlj]; simp [rk_i64 hxi])
        have HVC := Lib.hid e0
        clear hx hcell hlj e0
        go_upto_region 7 with fail
        clear y2 yl
        have HI5 := HIJ
        have hzr := HIJ.out.size
        have HXC := Lib.hid (show ∀ w1, Turned (fun b => (Value.slice ob j cb2).ownBlock = some b) wr w1 → w1.cell? ⟨vb, voff + j, none⟩ = some (.int .i64 x) from fun w1 h => ((h.below (b0 := B) (fun b hb => by have := own_base HIJ.out.vrow b hb; omega) (by omega)).cell (p := ⟨vb, voff + j, none⟩) hvb).trans HVC.out)
        have HD5 := Lib.hid ((Below.refl wr.heap.size wr).drew)
        refine wp_region_turnT 11 10 (fun i => i == 9) (ShVR (w.heap.size + 3) w.heap.size j lj x k (.slice ob j cb2) (.slice (some ⟨vb, voff, none⟩) lv cv) ⟨w.heap.size, 2, none⟩ ⟨vb, voff + j, none⟩ wr.heap.size) (fun A C => Turned (fun b => (Value.slice ob j cb2).ownBlock = some b) A C) (fun A C => Below A.heap.size A C) (by kernel_rfl) (by show turnT _ 11 70 10 _ = true; kernel_rfl) (fun h k => h.next k) (fun h k => Below.next h k) (fun _ k => Turned.of_below k) (Turned.refl _ _) (Below.refl _ _) (fun i v A C hi hu h _ => shVR_const i v A C hi hu h) (fun i v A C hu h hb => shVR_kept i v A C (by simpa using hu) h hb) (fun v A C h hb => shVR_app v A C h hb) ?hops ?hend
        case hops =>
          intro i o hi ho a w1 hdf hsz hex hpre hdep hrest
          have HX := Lib.hid (show Turned (fun b => (Value.slice ob j cb2).ownBlock = some b) wr w1 from (Turned.of_below HD5.out).next hex)
          match i, hi with
          | 0, _ =>
            obtain rfl : _ = o := Option.some.inj ho
            have h5 : a.tmps.getD 5 undef = .pointer (some ⟨w.heap.size + 1 + 1, 0, none⟩) := hrest.at 5 (by kernel_rfl)
            exact wpList_value (v := .pointer (some ⟨w.heap.size + 1 + 1, 2, none⟩)) (w' := w1) rfl (by go_simp) ⟨rfl, _, rfl, rfl, Below.refl _ _⟩
          | 1, _ =>
            obtain rfl : _ = o := Option.some.inj ho
            have h38 : a.tmps.getD 38 undef = .pointer (some ⟨w.heap.size + 1 + 1, 2, none⟩) := dep_at hdep 0 38 (by kernel_rfl)
            have hbx := HX.out.box HI5.out.x5 (fun e => by have := own_base HI5.out.vrow (w.heap.size + 1 + 1) e; omega)
            have c2 := hbx.cell 2 rfl
            have cl := hbx.lt
            exact wpList_value (v := .slice ob j cb2) (w' := w1) rfl (by go_simp) ⟨rfl, _, rfl, rfl, Below.refl _ _⟩
          | 2, _ =>
            obtain rfl : _ = o := Option.some.inj ho
            have h2 : a.tmps.getD 2 undef = .pointer (some ⟨w.heap.size, 0, none⟩) := hrest.at 2 (by kernel_rfl)
            exact wpList_value (v := .pointer (some ⟨w.heap.size, 2, none⟩)) (w' := w1) rfl (by go_simp) ⟨rfl, _, rfl, rfl, Below.refl _ _⟩
          | 3, _ =>
            obtain rfl : _ = o := Option.some.inj ho
            have h40 : a.tmps.getD 40 undef = .pointer (some ⟨w.heap.size, 2, none⟩) := dep_at hdep 2 40 (by kernel_rfl)
            have hbx := HX.out.box HI5.out.x2 (fun e => by have := own_base HI5.out.vrow w.heap.size e; omega)
            have c2 := hbx.cell 2 rfl
            have cl := hbx.lt
            exact wpList_value (v := .slice (some ⟨vb, voff, none⟩) lv cv) (w' := w1) rfl (by go_simp) ⟨rfl, _, rfl, rfl, Below.refl _ _⟩
          | 4, _ =>
            obtain rfl : _ = o := Option.some.inj ho
            have h6 : a.tmps.getD 6 undef = .int .i64 j := hrest.at 6 (by kernel_rfl)
            exact wpList_value (v := .int .i64 j) (w' := w1) rfl (by go_simp) ⟨rfl, _, rfl, rfl, Below.refl _ _⟩
          | 5, _ =>
            obtain rfl : _ = o := Option.some.inj ho
            have h41 : a.tmps.getD 41 undef = .slice (some ⟨vb, voff, none⟩) lv cv := dep_at hdep 3 41 (by kernel_rfl)
            have h42 : a.tmps.getD 42 undef = .int .i64 j := dep_at hdep 4 42 (by kernel_rfl)
            exact wpList_value (v := .pointer (some ⟨vb, voff + j, none⟩)) (w' := w1) rfl (by go_simp) ⟨rfl, _, rfl, rfl, Below.refl _ _⟩
          | 6, _ =>
            obtain rfl : _ = o := Option.some.inj ho
            have h43 : a.tmps.getD 43 undef = .pointer (some ⟨vb, voff + j, none⟩) := dep_at hdep 5 43 (by kernel_rfl)
            have hxc := HXC.out w1 HX.out
            have hxl := cell_lt hxc
            exact wpList_value (v := .int .i64 x) (w' := w1) rfl (by go_simp) ⟨rfl, _, rfl, rfl, Below.refl _ _⟩
          | 7, _ =>
            obtain rfl : _ = o := Option.some.inj ho
            have h1 : a.tmps.getD 1 undef = .int .i64 k := hrest.at 1 (by kernel_rfl)
            exact wpList_value (v := .int .i64 k) (w' := w1) rfl (by go_simp) ⟨rfl, _, rfl, rfl, Below.refl _ _⟩
          | 8, _ =>
            obtain rfl : _ = o := Option.some.inj ho
            have h44 : a.tmps.getD 44 undef = .int .i64 x := dep_at hdep 6 44 (by kernel_rfl)
            have h45 : a.tmps.getD 45 undef = .int .i64 k := dep_at hdep 7 45 (by kernel_rfl)
            exact wpList_value (v := .int .i64 (wrap64 (x + k))) (w' := w1) rfl (by go_simp; exact wrap64_is _) ⟨rfl, _, rfl, rfl, Below.refl _ _⟩
          | 9, _ =>
            obtain rfl : _ = o := Option.some.inj ho
            have h46 : a.tmps.getD 46 undef = .int .i64 (wrap64 (x + k)) := dep_at hdep 8 46 (by kernel_rfl)
            exact wpList_bs1 (v := .slice (some ⟨w1.heap.size, 0, none⟩) 1 1) (w' := w1.alloc (.cells #[.int .i64 (wrap64 (x + k))] 3)) rfl rfl h46 (bs_int _ _) ⟨rfl, _, rfl, ⟨_, rfl, BoxL.new rfl _ _⟩, Below.one _ _⟩
          | 10, _ =>
            obtain rfl : _ = o := Option.some.inj ho
            have h39 : a.tmps.getD 39 undef = .slice ob j cb2 := dep_at hdep 1 39 (by kernel_rfl)
            obtain ⟨b9, h47, hb9⟩ : ∃ b, a.tmps.getD 47 undef = .slice (some ⟨b, 0, none⟩) 1 1 ∧ BoxL w1 b 3 [.int .i64 (wrap64 (x + k))] := dep_at hdep 9 47 (by kernel_rfl)
            have hrow : w1.ownsRow (w.heap.size + 3) 3 1 (.slice ob j cb2) j (lj.map (Value.int .i64)) := ownsRow_keep HI5.out.vrow (Below.next HD5.out (hpre rfl))
            obtain ⟨i0, hi0, hz0, hz1, hz2⟩ := info_parts info_int
            have hzz := HI5.out.size
            refine wpList_append_lies w1 rfl (.tmp 39) (.tmp 47) 32 rfl (w.heap.size + 3) 3 i0 (.int .i64 0) 1 8 Tryz.underlying32 hi0 hz0 hz1 hz2 rfl (by decide) (.slice ob j cb2) j (lj.map (Value.int .i64)) h39 hrow ⟨b9, 0, none⟩ 1 1 [.int .i64 (wrap64 (x + k))] h47 rfl (box_cells hb9) (by intro u hu; simp only [List.mem_cons, List.not_mem_nil, or_false] at hu; subst hu; rfl) (by decide) (by unfold maxLen; omega) (by omega) (by have := HX.out.size; omega) w1.heap.size rfl ?_
            intro g cap w7 hown7 hgr7 hlie7 hlt7
            exact ⟨rfl, _, rfl, ⟨g, cap, rfl, hown7, hlie7.imp id (fun e => by have := HX.out.size; omega)⟩, Turned.grown hgr7 (fun _ h => h)⟩
        case hend =>
          intro a w1 hdf hsz hex hval hrest
          obtain ⟨g, cap, h48, hown, hlie⟩ : ∃ (g cap : Nat), a.tmps.getD 48 undef = .slice (some ⟨g, 0, none⟩) (j + 1) cap ∧ w1.ownsRow (w.heap.size + 3) 3 1 (.slice (some ⟨g, 0, none⟩) (j + 1) cap) (j + 1) (lj.map (Value.int .i64) ++ ([.int .i64 (wrap64 (x + k))] : List Value)) ∧ ((Value.slice ob j cb2).ownBlock = some g ∨ wr.heap.size ≤ g) := hval 10 _ 48 (by omega) rfl rfl rfl
          obtain ⟨f, ha, hf⟩ := act_spell [false, false, false, false, false, false, false, false, false, false, false, false, false, false, false, false, false, false, false, false, false, false, false, false, false, false, false, false, false, false, false, false, false, false, false, false, false, false, true, true, true, true, true, true, true, true, true, true, true] (by kernel_rfl) hdf hsz hrest
          rw [← hf] at h48
          subst ha
          have HX := Lib.hid (show Turned (fun b => (Value.slice ob j cb2).ownBlock = some b) wr w1 from (Turned.of_below HD5.out).next hex)
          clear hval hrest hf hex hdf hsz
          have hbx := HX.out.box HI5.out.x5 (fun e => by have := own_base HI5.out.vrow (w.heap.size + 1 + 1) e; omega)
          have c2 := hbx.cell 2 rfl
          have cz := hbx.free 2
          have cl := hbx.lt
          have HN5 := Lib.hid (HI5.out.vnext HX.out hown (wrap_I64 _))
          clear hbx hown
          simp only [spell, h48, List.drop_succ_cons, List.drop_zero]
          go_wp2_with fail
          go_roundg (lv - (j + 1))
          case measure => omega
          case rel => exact ⟨j + 1, .slice (some ⟨g, 0, none⟩) (j + 1) cap, rfl, by omega, by go_num, by rw [HVT.out]; exact HN5⟩
      · obtain rfl : lv = j := by omega
        have hvt : v.take lv = v := List.take_of_length_le (by rw [← HLV.out]; exact Nat.le_refl _)
        rw [hvt] at HIJ
        clear hvt
        go_wp2_with fail
        clear y2 yl
        go_loopg [7] lt (fun g i wr => ∃ (j : Nat) (tsl : Value), g = lt - j ∧ j ≤ lt ∧ i = .int .i64 j ∧ Hid (ShI w wr [.int .i64 o, .int .i64 n, .slice ov lv cv, .slice ot lt ct] o n5 vsl tsl (v.map (rk k)) ((t.take j).map (Trm.shift (rk k))) lv j))
        case atStart => exact ⟨0, .slice none 0 0, rfl, by omega, rfl, by simpa using HIJ⟩
        case round =>
          obtain ⟨j, tsl, rfl, hj, rfl, HI5⟩ := hrel
          have y3 := HI5.out.x2.cell 3 rfl
          have yl := HI5.out.x2.lt
          by_cases hjl : j < lt
          · obtain ⟨x, hx⟩ : ∃ x, t[j]? = some x := ⟨_, List.getElem?_eq_getElem (by rw [← HLT.out]; exact hjl)⟩
            have hbr : Below B w wr := HI5.out.turn.below (fun _ h => Nat.le_trans hB h) hB
            obtain ⟨vb, voff, cs, ho, hvb, hcl, hcell, hir⟩ := SlC.at HT.out hbr hx
            subst ho
            have HXM := Lib.hid (List.mem_of_getElem? hx)
            have HXS := Lib.hid (HSH.out x HXM.out)
            have HXA := Lib.hid (show x.all ≤ 100000 by
              have h1 := HALL.out
              have h2 := Trm.allL_mem HXM.out
              rw [Trm.all] at h1
              omega)
            have hjb : lt ≤ 100000 := by
              have h1 := HALL.out
              have h2 := Trm.allL_length t
              rw [Trm.all] at h1
              rw [HLT.out]
              omega
            match cs, hcl with
            | [d0, d1, d2, d3], _ =>
            obtain ⟨q1, l1, k1, q2, l2, k2, rfl, rfl, rfl, rfl⟩ := trm_form hir
            have HXR := Lib.hid (TrmR.kept hbr _ _ hir)
            have HXC := Lib.hid (show ∀ w1, Turned (fun b => tsl.ownBlock = some b) wr w1 → w1.cell? ⟨vb, voff + j * 4, none⟩ = some (.int .i64 x.op) ∧ w1.cell? ⟨vb, voff + j * 4 + 1, none⟩ = some (.int .i64 x.n) ∧ w1.cell? ⟨vb, voff + j * 4 + 2, none⟩ = some (.slice q1 l1 k1) ∧ w1.cell? ⟨vb, voff + j * 4 + 3, none⟩ = some (.slice q2 l2 k2) from fun w1 h => by
              have hb : Below B wr w1 := h.below (b0 := B) (fun b hb => by
                obtain ⟨xs, hr, _⟩ := HI5.out.trow
                have := own_base hr b hb
                omega) (by have := HI5.out.size; omega)
              exact ⟨(hb.cell (p := ⟨vb, voff + j * 4, none⟩) hvb).trans (hcell 0 _ rfl), (hb.cell (p := ⟨vb, voff + j * 4 + 1, none⟩) hvb).trans (hcell 1 _ rfl), (hb.cell (p := ⟨vb, voff + j * 4 + 2, none⟩) hvb).trans (hcell 2 _ rfl), (hb.cell (p := ⟨vb, voff + j * 4 + 3, none⟩) hvb).trans (hcell 3 _ rfl)⟩)
            obtain ⟨ob, cb2, rfl⟩ := HI5.out.tform
            obtain ⟨lj, hlj⟩ : ∃ lj, (t.take j).map (Trm.shift (rk k)) = lj := ⟨_, rfl⟩
            rw [hlj] at HI5
            have HTT := Lib.hid (show (t.take (j + 1)).map (Trm.shift (rk k)) = lj ++ [x.shift (rk k)] by rw [List.take_add_one, hx, List.map_append, hlj]; rfl)
            obtain ⟨xs, hr, hxs⟩ := HI5.out.trow
            have HR5 := Lib.hid hr
            have HXS5 := Lib.hid hxs
            have HOLD := Lib.hid (show ∀ b, (Value.slice ob j cb2).ownBlock = some b → b < wr.heap.size from fun b hb => by
              obtain ⟨cs, f, hc⟩ := own_row hr b hb
              exact (Array.getElem?_eq_some_iff.1 hc).1)
            have hzr := HI5.out.size
            clear hx hcell hlj hr hxs hir
            go_upto_region 11 with fail
            clear y3 yl
            have HD5 := Lib.hid ((Below.refl wr.heap.size wr).drew)
            refine wp_region_turnT 11 10 (fun i => i == 9) (ShTR (w.heap.size + 3) w.heap.size j xs x k (.slice ob j cb2) (.slice (some ⟨vb, voff, none⟩) lt ct) ⟨w.heap.size, 3, none⟩ ⟨vb, voff + j * 4, none⟩ (.agg #[.int .i64 x.op, .int .i64 x.n, .slice q1 l1 k1, .slice q2 l2 k2]) wr.heap.size) (fun A C => Turned (fun b => (Value.slice ob j cb2).ownBlock = some b) A C) (fun A C => Below A.heap.size A C) (by kernel_rfl) (by show turnT _ 11 70 10 _ = true; kernel_rfl) (fun h k => h.next k) (fun h k => Below.next h k) (fun _ k => Turned.of_below k) (Turned.refl _ _) (Below.refl _ _) (fun i v A C hi hu h ht => shTR_const HOLD.out i v A C hi hu h ht) (fun i v A C hu h hb => shTR_kept i v A C (by simpa using hu) h hb) (fun v A C h hb => shTR_app v A C h hb) ?hops ?hend
            case hops =>
              intro i o hi ho a w1 hdf hsz hex hpre hdep hrest
              have HX := Lib.hid (show Turned (fun b => (Value.slice ob j cb2).ownBlock = some b) wr w1 from (Turned.of_below HD5.out).next hex)
              match i, hi with
              | 0, _ =>
                obtain rfl : _ = o := Option.some.inj ho
                have h5 : a.tmps.getD 5 undef = .pointer (some ⟨w.heap.size + 1 + 1, 0, none⟩) := hrest.at 5 (by kernel_rfl)
                exact wpList_value (v := .pointer (some ⟨w.heap.size + 1 + 1, 3, none⟩)) (w' := w1) rfl (by go_simp) ⟨rfl, _, rfl, rfl, Below.refl _ _⟩
              | 1, _ =>
                obtain rfl : _ = o := Option.some.inj ho
                have h57 : a.tmps.getD 57 undef = .pointer (some ⟨w.heap.size + 1 + 1, 3, none⟩) := dep_at hdep 0 57 (by kernel_rfl)
                have hbx := HX.out.box HI5.out.x5 (fun e => by have := own_base HR5.out (w.heap.size + 1 + 1) e; omega)
                have c2 := hbx.cell 3 rfl
                have cl := hbx.lt
                exact wpList_value (v := .slice ob j cb2) (w' := w1) rfl (by go_simp) ⟨rfl, _, rfl, rfl, Below.refl _ _⟩
              | 2, _ =>
                obtain rfl : _ = o := Option.some.inj ho
                have h2 : a.tmps.getD 2 undef = .pointer (some ⟨w.heap.size, 0, none⟩) := hrest.at 2 (by kernel_rfl)
                exact wpList_value (v := .pointer (some ⟨w.heap.size, 3, none⟩)) (w' := w1) rfl (by go_simp) ⟨rfl, _, rfl, rfl, Below.refl _ _⟩
              | 3, _ =>
                obtain rfl : _ = o := Option.some.inj ho
                have h59 : a.tmps.getD 59 undef = .pointer (some ⟨w.heap.size, 3, none⟩) := dep_at hdep 2 59 (by kernel_rfl)
                have hbx := HX.out.box HI5.out.x2 (fun e => by have := own_base HR5.out w.heap.size e; omega)
                have c2 := hbx.cell 3 rfl
                have cl := hbx.lt
                exact wpList_value (v := .slice (some ⟨vb, voff, none⟩) lt ct) (w' := w1) rfl (by go_simp) ⟨rfl, _, rfl, rfl, Below.refl _ _⟩
              | 4, _ =>
                obtain rfl : _ = o := Option.some.inj ho
                have h7 : a.tmps.getD 7 undef = .int .i64 j := hrest.at 7 (by kernel_rfl)
                exact wpList_value (v := .int .i64 j) (w' := w1) rfl (by go_simp) ⟨rfl, _, rfl, rfl, Below.refl _ _⟩
              | 5, _ =>
                obtain rfl : _ = o := Option.some.inj ho
                have h60 : a.tmps.getD 60 undef = .slice (some ⟨vb, voff, none⟩) lt ct := dep_at hdep 3 60 (by kernel_rfl)
                have h61 : a.tmps.getD 61 undef = .int .i64 j := dep_at hdep 4 61 (by kernel_rfl)
                exact wpList_value (v := .pointer (some ⟨vb, voff + j * 4, none⟩)) (w' := w1) rfl (by go_simp) ⟨rfl, _, rfl, rfl, Below.refl _ _⟩
              | 6, _ =>
                obtain rfl : _ = o := Option.some.inj ho
                have h62 : a.tmps.getD 62 undef = .pointer (some ⟨vb, voff + j * 4, none⟩) := dep_at hdep 5 62 (by kernel_rfl)
                obtain ⟨z0, z1, z2, z3⟩ := HXC.out w1 HX.out
                have hxl := cell_lt z0
                exact wpList_value (v := .agg #[.int .i64 x.op, .int .i64 x.n, .slice q1 l1 k1, .slice q2 l2 k2]) (w' := w1) rfl (by go_simp) ⟨rfl, _, rfl, rfl, Below.refl _ _⟩
              | 7, _ =>
                obtain rfl : _ = o := Option.some.inj ho
                have h1 : a.tmps.getD 1 undef = .int .i64 k := hrest.at 1 (by kernel_rfl)
                exact wpList_value (v := .int .i64 k) (w' := w1) rfl (by go_simp) ⟨rfl, _, rfl, rfl, Below.refl _ _⟩
              | 8, _ =>
                obtain rfl : _ = o := Option.some.inj ho
                have h63 : a.tmps.getD 63 undef = .agg #[.int .i64 x.op, .int .i64 x.n, .slice q1 l1 k1, .slice q2 l2 k2] := dep_at hdep 6 63 (by kernel_rfl)
                have h64 : a.tmps.getD 64 undef = .int .i64 k := dep_at hdep 7 64 (by kernel_rfl)
                refine wpList_callF2 rfl rfl h63 h64 (fun _ _ => rfl) (HIH.out x HXM.out _ _ _ _ B w1 (HXR.out.kept (HX.out.below (fun b hb => by have := own_base HR5.out b hb; omega) (by omega)) _ _) (by have := HX.out.size; omega) HXS.out HXA.out) ?_
                rintro e w8 ⟨o8, n8, ov8, ot8, lv8, cv8, lt8, ct8, rfl, h8, hb8⟩
                exact ⟨_, rfl, _, rfl, ⟨o8, n8, ov8, ot8, lv8, cv8, lt8, ct8, rfl, h8.keep (Nat.le_refl _) (fun b _ hb => Nat.le_trans HX.out.size hb) (fun _ _ _ _ => rfl)⟩, hb8⟩
              | 9, _ =>
                obtain rfl : _ = o := Option.some.inj ho
                obtain ⟨o8, n8, ov8, ot8, lv8, cv8, lt8, ct8, h65, h8⟩ : ∃ (o n : Int) (ov ot : Option Addr) (lv cv lt ct : Nat), a.tmps.getD 65 undef = .agg #[.int .i64 o, .int .i64 n, .slice ov lv cv, .slice ot lt ct] ∧ TrmF w1 (fun b => wr.heap.size ≤ b) (x.shift (rk k)) [.int .i64 o, .int .i64 n, .slice ov lv cv, .slice ot lt ct] := dep_at hdep 8 65 (by kernel_rfl)
                exact wpList_bs1 (v := .slice (some ⟨w1.heap.size, 0, none⟩) 1 1) (w' := w1.alloc (.cells #[.int .i64 o8, .int .i64 n8, .slice ov8 lv8 cv8, .slice ot8 lt8 ct8] 41)) rfl rfl h65 (bs_term _ _ _ _ _ _ _ _ _) ⟨rfl, _, rfl, ⟨_, o8, n8, ov8, ot8, lv8, cv8, lt8, ct8, rfl, BoxL.new rfl _ _, h8.below (Below.one _ _)⟩, Below.one _ _⟩
              | 10, _ =>
                obtain rfl : _ = o := Option.some.inj ho
                have h58 : a.tmps.getD 58 undef = .slice ob j cb2 := dep_at hdep 1 58 (by kernel_rfl)
                obtain ⟨b9, o8, n8, ov8, ot8, lv8, cv8, lt8, ct8, h66, hb9, h8⟩ : ∃ (b : Nat) (o n : Int) (ov ot : Option Addr) (lv cv lt ct : Nat), a.tmps.getD 66 undef = .slice (some ⟨b, 0, none⟩) 1 1 ∧ BoxL w1 b 41 [.int .i64 o, .int .i64 n, .slice ov lv cv, .slice ot lt ct] ∧ TrmF w1 (fun b => wr.heap.size ≤ b) (x.shift (rk k)) [.int .i64 o, .int .i64 n, .slice ov lv cv, .slice ot lt ct] := dep_at hdep 9 66 (by kernel_rfl)
                have hrow : w1.ownsRow (w.heap.size + 3) 41 4 (.slice ob j cb2) j xs := ownsRow_keep HR5.out (Below.next HD5.out (hpre rfl))
                obtain ⟨i0, hi0, hz0, hz1, hz2⟩ := info_parts info_termS
                have hzz := HI5.out.size
                have HOL := HOLD.out
                refine wpList_append_lies w1 rfl (.tmp 58) (.tmp 66) 39 rfl (w.heap.size + 3) 41 i0 (.agg #[.int .i64 0, .int .i64 0, .slice none 0 0, .slice none 0 0]) 4 64 Tryz.underlying39 hi0 hz0 hz1 hz2 rfl (by decide) (.slice ob j cb2) j xs h58 hrow ⟨b9, 0, none⟩ 1 1 [.int .i64 o8, .int .i64 n8, .slice ov8 lv8 cv8, .slice ot8 lt8 ct8] h66 rfl (box_cells hb9) (by intro u hu; simp only [List.mem_cons, List.not_mem_nil, or_false] at hu; rcases hu with rfl | rfl | rfl | rfl <;> rfl) (by decide) (by unfold maxLen; omega) (by omega) (by have := HX.out.size; omega) w1.heap.size rfl ?_
                intro g cap w7 hown7 hgr7 hlie7 hlt7
                have hT7 : Turned (fun b => (Value.slice ob j cb2).ownBlock = some b) w1 w7 := Turned.grown hgr7 (fun _ h => h)
                refine ⟨rfl, _, rfl, ⟨g, cap, o8, n8, ov8, ot8, lv8, cv8, lt8, ct8, rfl, hown7, hlie7.imp id (fun e => by have := HX.out.size; omega), h8.keep hT7.size (fun b hlt hb => ⟨hb, fun e => ?_⟩) (fun b hb _ hlt => hT7.block b hlt fun e => by have := HOL b e; omega)⟩, hT7⟩
                subst e
                rcases hlie7 with h | h
                · have := HOL _ h; omega
                · omega
            case hend =>
              intro a w1 hdf hsz hex hval hrest
              obtain ⟨g, cap, o8, n8, ov8, ot8, lv8, cv8, lt8, ct8, h67, hown, hlie, h8⟩ : ∃ (g cap : Nat) (o n : Int) (ov ot : Option Addr) (lv cv lt ct : Nat), a.tmps.getD 67 undef = .slice (some ⟨g, 0, none⟩) (j + 1) cap ∧ w1.ownsRow (w.heap.size + 3) 41 4 (.slice (some ⟨g, 0, none⟩) (j + 1) cap) (j + 1) (xs ++ ([.int .i64 o, .int .i64 n, .slice ov lv cv, .slice ot lt ct] : List Value)) ∧ ((Value.slice ob j cb2).ownBlock = some g ∨ wr.heap.size ≤ g) ∧ TrmF w1 (fun b => wr.heap.size ≤ b ∧ b ≠ g) (x.shift (rk k)) [.int .i64 o, .int .i64 n, .slice ov lv cv, .slice ot lt ct] := hval 10 _ 67 (by omega) rfl rfl rfl
              obtain ⟨f, ha, hf⟩ := act_spell [false, false, false, false, false, false, false, false, false, false, false, false, false, false, false, false, false, false, false, false, false, false, false, false, false, false, false, false, false, false, false, false, false, false, false, false, false, false, false, false, false, false, false, false, false, false, false, false, false, false, false, false, false, false, false, false, false, true, true, true, true, true, true, true, true, true, true, true] (by kernel_rfl) hdf hsz hrest
              rw [← hf] at h67
              subst ha
              have HX := Lib.hid (show Turned (fun b => (Value.slice ob j cb2).ownBlock = some b) wr w1 from (Turned.of_below HD5.out).next hex)
              clear hval hrest hf hex hdf hsz
              have hbx := HX.out.box HI5.out.x5 (fun e => by have := own_base HR5.out (w.heap.size + 1 + 1) e; omega)
              have c2 := hbx.cell 3 rfl
              have cz := hbx.free 3
              have cl := hbx.lt
              have HN5 := Lib.hid (HI5.out.tnext HX.out hown HXS5.out hlie h8)
              clear hbx hown h8
              simp only [spell, h67, List.drop_succ_cons, List.drop_zero]
              go_wp2_with fail
              go_roundg (lt - (j + 1))
              case measure => omega
              case rel => exact ⟨j + 1, .slice (some ⟨g, 0, none⟩) (j + 1) cap, rfl, by omega, by go_num, by rw [HTT.out]; exact HN5⟩
          · obtain rfl : lt = j := by omega
            have hvt : t.take lt = t := List.take_of_length_le (by rw [← HLT.out]; exact Nat.le_refl _)
            rw [hvt] at HI5
            clear hvt
            obtain ⟨ob, cb2, rfl⟩ := HI5.out.tform
            obtain ⟨obv, cbv, rfl⟩ := HI5.out.vform
            have f0 := HI5.out.x5.cell 0 rfl
            have f1 := HI5.out.x5.cell 1 rfl
            have f2 := HI5.out.x5.cell 2 rfl
            have f3 := HI5.out.x5.cell 3 rfl
            have fl := HI5.out.x5.lt
            have g0 := HI5.out.x4.cell 0 rfl
            have g1 := HI5.out.x4.cell 1 rfl
            have g2 := HI5.out.x4.cell 2 rfl
            have g3 := HI5.out.x4.cell 3 rfl
            have gf0 := HI5.out.x4.free 0
            have gf1 := HI5.out.x4.free 1
            have gf2 := HI5.out.x4.free 2
            have gf3 := HI5.out.x4.free 3
            have gl := HI5.out.x4.lt
            go_wp2_with fail
            obtain ⟨W9, hW9⟩ : ∃ W9, ((((wr.setCell ⟨w.heap.size + 1, 0, none⟩ (.int .i64 o)).setCell ⟨w.heap.size + 1, 1, none⟩ (.int .i64 n5)).setCell ⟨w.heap.size + 1, 2, none⟩ (.slice obv lv cbv)).setCell ⟨w.heap.size + 1, 3, none⟩ (.slice ob lt cb2)) = W9 := ⟨_, rfl⟩
            have hx9 : BoxL W9 (w.heap.size + 1) 41 [.int .i64 o, .int .i64 n5, .slice obv lv cbv, .slice ob lt cb2] := hW9 ▸ (((HI5.out.x4.set 0 _).set 1 _).set 2 _).set 3 _
            have h9 : ∀ b, b ≠ w.heap.size + 1 → W9.heap[b]? = wr.heap[b]? := fun b hb => by
              rw [← hW9]
              exact (setCell_heap_other _ _ _ hb).trans ((setCell_heap_other _ _ _ hb).trans ((setCell_heap_other _ _ _ hb).trans (setCell_heap_other _ _ _ hb)))
            have hs9 : W9.heap.size = wr.heap.size := by rw [← hW9]; simp only [World.size_setCell]
            have HT9 := Lib.hid (show Turned (fun b => w.heap.size ≤ b) wr W9 from by
              rw [← hW9]
              exact (((Turned.set _ _ _ (by show w.heap.size ≤ w.heap.size + 1; omega)).next (Turned.set _ _ _ (by show w.heap.size ≤ w.heap.size + 1; omega))).next (Turned.set _ _ _ (by show w.heap.size ≤ w.heap.size + 1; omega))).next (Turned.set _ _ _ (by show w.heap.size ≤ w.heap.size + 1; omega)))
            have HD9 := Lib.hid (HI5.out.done h9 hs9 ho HN6.out HN5.out)
            have r0 := hx9.cell 0 rfl
            have r1 := hx9.cell 1 rfl
            have r2 := hx9.cell 2 rfl
            have r3 := hx9.cell 3 rfl
            rw [hW9]
            clear hx9 h9 hs9 hW9 f0 f1 f2 f3 fl g0 g1 g2 g3 gf0 gf1 gf2 gf3 gl
            refine bodyPost_ret (v := .agg #[.int .i64 o, .int .i64 n5, .slice obv lv cbv, .slice ob lt cb2]) (by simp [results, Tryz.results18, go_sem, r0, r1, r2, r3]) rfl ?_
            exact ⟨o, n5, obv, ob, lv, cbv, lt, cb2, rfl, HD9.out, (HI5.out.turn.next HT9.out).below (fun _ h => h) (Nat.le_refl _)⟩
end Go.Proofs.YtigkhmppnnljiaaGreatDoor

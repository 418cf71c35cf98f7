/-
  What the proofs lean on: Peeps, ChkD, MkShape.
-/
import Derived.RangeFuncNested
import Derived.RangeFuncLeaves
import Derived.RangeFuncCalls
import Derived.Shelf.Abstract
import Derived.Shelf.RegionOpen
import Derived.OwnWalkIn
import Derived.TacticsInMore
import Derived.LoopNIn
import Derived.LoopIn
import Derived.Sort.LoopGhostIn
import Derived.WalkSpells
import Derived.Deep.AppendLies
import Derived.Deep.DeepCutAuto
import Derived.Test.YtigkhmppnnljiaaGreatDoorShiftA04
import Derived.Test.YtigkhmppnnljiaaGreatDoorShiftA06
import Derived.Test.YtigkhmppnnljiaaGreatDoorShiftA09
import Derived.Test.YtigkhmppnnljiaaGreatDoorShiftA13
import Derived.Test.YtigkhmppnnljiaaGreatDoorShiftA15
import Derived.Test.YtigkhmppnnljiaaGreatDoorShiftA16
import Derived.Test.YtigkhmppnnljiaaGreatDoorShiftA18
import Derived.Test.YtigkhmppnnljiaaGreatDoorShiftA19
import Derived.Test.YtigkhmppnnljiaaGreatDoorShiftA20
import Derived.Test.YtigkhmppnnljiaaGreatDoorShiftA21
namespace Go.Proofs.YtigkhmppnnljiaaGreatDoor
open Go Go.RowKit

end Go.Proofs.YtigkhmppnnljiaaGreatDoor

namespace Go.Proofs.YtigkhmppnnljiaaGreatDoor
open Go Go.RowKit Go.Shelf

end Go.Proofs.YtigkhmppnnljiaaGreatDoor

namespace Go.Proofs.YtigkhmppnnljiaaGreatDoor
open Go Go.RowKit Go.Shelf
attribute [local go_sem] Oper.semAt_some

/-! ### the plain law of the search -/
theorem own_row {W : World} {base n size : Nat} {e : TypeId} {v : Value} {xs : List Value} (h : W.ownsRow base e size v n xs) : ∀ r, v.ownBlock = some r → ∃ cs f, W.heap[r]? = some (.cells cs e f) := by
  intro r hr
  rcases h.2 with ⟨rfl, _⟩ | ⟨g, cap, cur, rfl, _, hgb, _⟩
  · cases hr
  · simp only [Value.ownBlock, Option.some.injEq] at hr
    subst hr
    exact ⟨_, _, hgb⟩

end Go.Proofs.YtigkhmppnnljiaaGreatDoor

namespace Go.Proofs.YtigkhmppnnljiaaGreatDoor
open Go Go.RowKit

/-- The cells that U knows are W's, and none of them lies in a block of S. -/
def Sub (S : Nat → Prop) (U W : World) : Prop := ∀ b o v, U.cell? ⟨b, o, none⟩ = some v → b < W.heap.size ∧ ¬ S b ∧ W.cell? ⟨b, o, none⟩ = some v
theorem Sub.step {S S' : Nat → Prop} {U W W' : World} (h : Sub S U W) (hs : W.heap.size ≤ W'.heap.size) (hb : ∀ b, b < W.heap.size → ¬ S b → W'.heap[b]? = W.heap[b]?) (hS : ∀ b, b < W.heap.size → S' b → S b) : Sub S' U W' := fun b o v hc => by
  obtain ⟨h1, h2, h3⟩ := h b o v hc
  refine ⟨Nat.lt_of_lt_of_le h1 hs, fun hn => h2 (hS b h1 hn), ?_⟩
  unfold World.cell? at h3 ⊢
  rw [show W'.heap[({ block := b, off := o, spot := none } : Addr).block]? = W.heap[b]? from hb b h1 h2]
  exact h3
theorem Sub.below {S : Nat → Prop} {U W W' : World} (h : Sub S U W) (hb : Below W.heap.size W W') : Sub S U W' := h.step hb.size (fun b hlt _ => hb.block b hlt) (fun _ _ h => h)
theorem Sub.set {S : Nat → Prop} {U W : World} (h : Sub S U W) (a : Addr) (v : Value) (ha : S a.block) : Sub S U (W.setCell a v) := h.step (by rw [World.size_setCell]; exact Nat.le_refl _) (fun b _ hn => setCell_heap_other W a v (fun e => hn (e ▸ ha))) (fun _ _ h => h)
theorem Sub.of_gap {S : Nat → Prop} {W : World} {H : Nat} (hS : ∀ b, S b → b < H) : Sub S (gap W 0 H) W := fun b o v hc => by
  obtain ⟨h1, h2⟩ := gap_some hc
  exact ⟨cell_lt h2, fun hb => h1 ⟨Nat.zero_le _, hS b hb⟩, h2⟩
theorem Sub.cells {S : Nat → Prop} {U W : World} (h : Sub S U W) : ∀ b o v, U.cell? ⟨b, o, none⟩ = some v → W.cell? ⟨b, o, none⟩ = some v := fun b o v hc => (h b o v hc).2.2
theorem codeR_cells {U W : World} {B : Nat} {l : List Ins} {v : Value} (h : SlC U B 5 (InsR U B) l v) (hk : ∀ b o u, U.cell? ⟨b, o, none⟩ = some u → W.cell? ⟨b, o, none⟩ = some u) : SlC W B 5 (InsR W B) l v := h.cells hk fun _ _ _ h => h.cells hk
end Go.Proofs.YtigkhmppnnljiaaGreatDoor

namespace Go.Proofs.YtigkhmppnnljiaaGreatDoor
open Go.RowKit

theorem RepC.news {w : World} {B b : Nat} : ∀ {l : List Dat} {off : Nat}, RepC w B l b off → ∃ xs, CellsD w B l xs ∧ ∀ j u, xs[j]? = some u → w.cell? ⟨b, off + j, none⟩ = some u
  | [], _, _ => ⟨[], rfl, fun j u h => by simp at h⟩
  | x :: l, off, h => by
    rw [RepC] at h
    obtain ⟨⟨c0, c1, c2, c3, c4, h0, h1, h2, h3, h4, hx⟩, hl⟩ := h
    obtain ⟨xs, hc, hr⟩ := RepC.news hl
    refine ⟨c0 :: c1 :: c2 :: c3 :: c4 :: xs, ⟨c0, c1, c2, c3, c4, xs, rfl, hx, hc⟩, fun j u hj => ?_⟩
    match j, hj with
    | 0, hj => obtain rfl : c0 = u := by simpa using hj
               exact h0
    | 1, hj => obtain rfl : c1 = u := by simpa using hj
               exact h1
    | 2, hj => obtain rfl : c2 = u := by simpa using hj
               exact h2
    | 3, hj => obtain rfl : c3 = u := by simpa using hj
               exact h3
    | 4, hj => obtain rfl : c4 = u := by simpa using hj
               exact h4
    | j + 5, hj =>
      have := hr j u (by simpa using hj)
      rwa [show off + 5 + j = off + (j + 5) by omega] at this
theorem data_one {w : World} {B : Nat} : ∀ {l : List Dat} {xs : List Value}, CellsD w B l xs → ∀ u ∈ xs, u.oneCell' = true
  | [], _, h, u, hu => by rw [CellsD] at h; subst h; cases hu
  | .mk k n d s l' :: l, xs, ⟨c0, c1, c2, c3, c4, r, he, hx, hr⟩, u, hu => by
    subst he
    obtain ⟨sl, he, _, _, _, _, o, len, cap, rfl, _⟩ := hx.open
    simp only [Value.agg.injEq, Array.mk.injEq, List.cons.injEq, and_true] at he
    obtain ⟨rfl, rfl, rfl, rfl, rfl⟩ := he
    simp only [List.mem_cons] at hu
    rcases hu with rfl | rfl | rfl | rfl | rfl | hu
    · rfl
    · rfl
    · rfl
    · rfl
    · rfl
    · exact data_one hr u hu

set_option maxHeartbeats 1000000 in
set_option maxRecDepth 100000 in
theorem cloneD_any (l : List Dat) (v : Value) (B : Nat) (w : World) (hv : RepS w B l v) (hB : B ≤ w.heap.size) (hm : l.length ≤ 1000000) :
    Calls Tryz.prog 39 #[v] w fun e w' => ∃ v', e = .returned v' ∧ RepS (gap w' B w.heap.size) w'.heap.size l v' ∧ (∃ o len cap, v' = .slice o len cap) ∧ Below w.heap.size w w' := by
  obtain ⟨o, len, cap, rfl, hlen, hcap, hmax, h4⟩ := hv
  have HL := Lib.hid hlen
  have hm' : len ≤ 1000000 := by omega
  cases o with
  | none =>
    obtain ⟨rfl, rfl⟩ := h4
    simp at hlen
    subst hlen
    clear HL
    have he := fun (w : World) => Lib.run_eql_slice_nil (P := Tryz.prog) w 22 60 none 0 0 0 0 Tryz.underlying22
    go_enter Tryz.func39, Tryz.ntmps39
    go_wp2_with fail
    go_ret
    exact ⟨_, rfl, ⟨none, 0, 0, rfl, rfl, by omega, by omega, rfl, rfl⟩, ⟨_, _, _, rfl⟩, Below.refl _ _⟩
  | some a =>
    obtain ⟨xs, hc, hr⟩ := RepC.news h4.2
    have hxl := hc.length
    have hcell : ∀ j u, xs[j]? = some u → w.cell? (a.add j) = some u := fun j u hj => by
      have hne : l ≠ [] := fun h => by
        have h1 := (List.getElem?_eq_some_iff.1 hj).1
        rw [hxl, h] at h1
        simp at h1
      rw [add_none (h4.1 hne).1]
      exact hr j u hj
    have he := fun (w : World) => Lib.run_eql_slice_nil (P := Tryz.prog) w 22 60 (some a) len cap 0 0 Tryz.underlying22
    have HO := Lib.hid (ownsRow_new (W := w) (b := w.heap.size) (base := w.heap.size) rfl (Nat.le_refl _) 60 5 0 [] rfl (by unfold maxLen; omega))
    obtain ⟨i0, hi, hz0, hz1, hz2⟩ := info_parts info_datum
    have HXL := Lib.hid (show xs.length = len * 5 from by rw [hxl, ← hlen])
    have HC := Lib.hid hc
    have HCELL := Lib.hid (show ∀ j u, xs[j]? = some u → (w.alloc (.cells [].toArray 60)).cell? (a.add j) = some u from fun j u hj => by
      have h := hcell j u hj
      have hsp := cell_spot h
      rw [show (a.add j) = ⟨(a.add j).block, (a.add j).off, (a.add j).spot⟩ from rfl, hsp.1] at h ⊢
      exact keepC (Below.one w _) h)
    clear hlen hxl hc hr hcell h4
    go_enter Tryz.func39, Tryz.ntmps39
    go_wp2_with (at_builtin; refine wpList_append_own _ rfl (.tmp 5) (.tmp 6) 22 rfl w.heap.size 60 i0 (.agg #[.int .i64 0, .int .i64 0, .int .i64 0, .string ⟨#[]⟩, .slice none 0 0]) 5 64 Tryz.underlying22 hi hz0 hz1 hz2 rfl (by decide) (.slice (some ⟨w.heap.size, 0, none⟩) 0 0) 0 [] rfl HO.out a len cap xs rfl HXL.out HCELL.out (data_one HC.out) (by unfold maxLen; omega) (by omega) (by simp) ?_)
    intro v' w2 hown hgrow _
    have hown : w2.ownsRow w.heap.size 60 5 v' len xs := by simpa using hown
    have HB := Lib.hid (show Below w.heap.size w w2 from (Below.one w _).grown hgrow (by simp) (fun g hg => by simp [Value.ownBlock] at hg; omega))
    have HR := Lib.hid (show RepS (gap w2 B w.heap.size) w2.heap.size l v' from by
      have h := repS_of_row (w := gap w2 B w.heap.size) (B := B) (base := w.heap.size) (by rw [← HL.out]; exact ownsRow_gap hown (Nat.le_refl _)) (HC.out.mono fun x v h => (h.kept (HB.out.mono hB)).dig (Nat.le_refl _)) (by rw [gap_size]; have := HB.out.size; omega)
      rwa [gap_size] at h)
    obtain ⟨o', l', c', rfl⟩ : ∃ o' l' c', v' = .slice o' l' c' := by
      rcases hown.2 with ⟨h, _⟩ | ⟨g, cap, cur, h, _⟩
      · exact ⟨_, _, _, h⟩
      · exact ⟨_, _, _, h⟩
    clear hown hgrow
    go_wp2_with fail
    go_ret
    exact ⟨_, rfl, HR.out, ⟨_, _, _, rfl⟩, HB.out⟩
end Go.Proofs.YtigkhmppnnljiaaGreatDoor

namespace Go.Proofs.YtigkhmppnnljiaaGreatDoor
open Go

theorem slots_at {ops : Array Oper} {n m i j d e : Nat} {oi oj : Oper} (h : slotsB ops n m = true) (hi : i < n) (hj : j < n) (hoi : ops[i]? = some oi) (hoj : ops[j]? = some oj) (hd : oi.dst = some d) (he : oj.dst = some e) : d < m ∧ (i = j ∨ d ≠ e) := by
  have := List.all_eq_true.1 (List.all_eq_true.1 h i (List.mem_range.2 hi)) j (List.mem_range.2 hj)
  simp only [hoi, hoj, hd, he, Bool.and_eq_true, decide_eq_true_eq, Bool.or_eq_true] at this
  exact this
theorem no_guard {ops : Array Oper} {n m i : Nat} {o : Oper} (h : guardsB .any ops n m [] = true) (hi : i < n) (ho : ops[i]? = some o) : o.guard = none := by
  have := List.all_eq_true.1 h i (List.mem_range.2 hi)
  simp only [ho] at this
  cases hg : o.guard with
  | none => rfl
  | some p =>
    obtain ⟨g, b⟩ := p
    rw [hg] at this
    simp at this
section
variable {P : Program} {ops : Array Oper} {o : Oper} {a : Act} {w w' : World}
theorem wpList_bs1 {Q : Exit → Act → World → Prop} {t s : Nat} {x v : Value} (hg : o.guard = none) (ho : o.op = .buildSlice t 1 #[(0, .tmp s)]) (hx : a.tmps.getD s undef = x) (hm : (Instr.buildSlice t 1 #[(0, x)]).run P w = .ok v w') (hQ : Q .normal (a.put o.dst v) w') : wpList P ops Q [o] a w := by
  refine wpList_value (v := v) (w' := w') hg ?_ hQ
  have hmap : (#[(0, Operand.tmp s)] : Array (Nat × Operand)).map (fun (i, x) => (i, a.eval x)) = #[(0, x)] := by
    simp only [List.map_toArray, List.map_cons, List.map_nil]
    rw [← hx]; rfl
  unfold execOp
  rw [ho]
  show (do let r ← Instr.buildSlice t 1 ((#[(0, Operand.tmp s)] : Array (Nat × Operand)).map (fun (i, x) => (i, a.eval x))); pure (Next.value r) : Sem Next).run P w = _
  rw [hmap]
  simp only [Sem.run_bind, Sem.run_pure, hm, Result.andThen_ok]
end
end Go.Proofs.YtigkhmppnnljiaaGreatDoor

namespace Go.Proofs.YtigkhmppnnljiaaGreatDoor
open Go Go.RowKit

namespace Peep
end Peep

/-- A procedure of the call's own, whose instructions lie beside some blocks. -/
def ProcN (W : World) (S : Nat → Prop) (p : Proc) (cs : List Value) : Prop :=
  ∃ U B sl, Sub S U W ∧ B ≤ W.heap.size ∧ cs = [.int .i64 p.args, .bool p.rest, .int .i64 p.regs, sl, .slice none 0 0] ∧ (-9223372036854775808 ≤ p.args ∧ p.args ≤ 9223372036854775807) ∧ (-9223372036854775808 ≤ p.regs ∧ p.regs ≤ 9223372036854775807) ∧ SlC U B 5 (InsR U B) p.code sl ∧ p.alive = []
theorem ProcN.to {W W' : World} {S S' : Nat → Prop} {p : Proc} {cs : List Value} (h : ProcN W S p cs) (hs : ∀ U, Sub S U W → Sub S' U W') (hz : W.heap.size ≤ W'.heap.size) : ProcN W' S' p cs := by
  obtain ⟨U, B, sl, h1, h2, h3⟩ := h
  exact ⟨U, B, sl, hs U h1, Nat.le_trans h2 hz, h3⟩
theorem ProcN.read {W : World} {S : Nat → Prop} {p : Proc} {cs : List Value} (h : ProcN W S p cs) : ProcR W W.heap.size p cs := by
  obtain ⟨U, B, sl, h1, h2, rfl, h4, h5, h6, h7⟩ := h
  exact ⟨sl, _, rfl, h4, h5, codeR_wider (codeR_cells h6 h1.cells) h2, by rw [h7]; exact ⟨none, 0, 0, rfl, rfl, by omega, by omega, rfl, rfl⟩⟩
theorem info_procC : (Tryz.prog.info? 31).map (fun i => (i.zero, i.size, i.bytes)) = some (some (.agg #[.int .i64 0, .bool false, .int .i64 0, .slice none 0 0, .slice none 0 0]), 5, 72) := by kernel_rfl
theorem RepS.cellsTo {U W : World} {B : Nat} {l : List Dat} {v : Value} (h : RepS U B l v) (hk : ∀ b o u, U.cell? ⟨b, o, none⟩ = some u → W.cell? ⟨b, o, none⟩ = some u) (hB : B ≤ W.heap.size) : RepS W W.heap.size l v := (RepS.mono hk h).wider hB
theorem grown_drew {A B : World} {row : Option Nat} (h : A.drew.grownBy B row) : A.grownBy B row := ⟨h.os, h.tape, h.output, h.size, h.block⟩
end Go.Proofs.YtigkhmppnnljiaaGreatDoor

namespace Go.Proofs.YtigkhmppnnljiaaGreatDoor
open Go Go.RowKit

namespace Peep
end Peep
end Go.Proofs.YtigkhmppnnljiaaGreatDoor

namespace Go.Proofs.YtigkhmppnnljiaaGreatDoor
open Go Go.RowKit

/-- What right keeps in boxes of its own. -/
structure RBox (W : World) (h cb sb : Nat) (op n : Int) (vs ts : Value) (deep : Int) : Prop where
  c : BoxL W h 100 [.pointer (some ⟨cb, 0, none⟩)]
  t : BoxL W (h + 1) 41 [.int .i64 op, .int .i64 n, vs, ts]
  s : BoxL W (h + 1 + 1) 101 [.map (some sb)]
  d : BoxL W (h + 1 + 1 + 1) 3 [.int .i64 deep]
theorem RBox.turned {S : Nat → Prop} {A B : World} {h cb sb : Nat} {op n : Int} {vs ts : Value} {deep : Int} (H : RBox A h cb sb op n vs ts deep) (ht : Turned S A B) (hS : ∀ b, S b → b < h) : RBox B h cb sb op n vs ts deep :=
  ⟨ht.box H.c fun hs => by have := hS _ hs; omega, ht.box H.t fun hs => by have := hS _ hs; omega, ht.box H.s fun hs => by have := hS _ hs; omega, ht.box H.d fun hs => by have := hS _ hs; omega⟩
theorem RBox.new (W : World) (cb sb : Nat) (op n : Int) (vs ts : Value) (deep : Int) : RBox ((((W.alloc (.cells #[.pointer (some ⟨cb, 0, none⟩)] 100)).alloc (.cells #[.int .i64 op, .int .i64 n, vs, ts] 41)).alloc (.cells #[.map (some sb)] 101)).alloc (.cells #[.int .i64 deep] 3)) W.heap.size cb sb op n vs ts deep :=
  ⟨(((BoxL.new rfl _ _).alloc _).alloc _).alloc _, ((BoxL.new (by simp) _ _).alloc _).alloc _, (BoxL.new (by simp) _ _).alloc _, BoxL.new (by simp) _ _⟩
theorem below_four (W : World) (a b c d : Obj) : Below W.heap.size W ((((W.alloc a).alloc b).alloc c).alloc d) := (Below.one W a).trans (((Below.one _ b).trans (((Below.one _ c).trans ((Below.one _ d).mono (by simp))).mono (by simp))).mono (by simp))
theorem ChkS.sized {W : World} {cb bb sb : Nat} {nc nk : Int} {fr : Bool} {size : Int} {l : List Int} {sc : Int → Bool} (h : ChkS W cb bb sb nc nk fr size l sc) (s : Int) : ChkS (W.setCell ⟨cb, 4, none⟩ (.int .i64 s)) cb bb sb nc nk fr s l sc :=
  ⟨h.box.set 4 _, h.bound.same (setCell_heap_other _ _ _ fun e => map_box_ne h.bound h.box e.symm), h.scope.same (setCell_heap_other _ _ _ fun e => map_box_ne h.scope h.box e.symm), h.new, h.ne⟩

set_option maxHeartbeats 4000000 in
set_option maxRecDepth 100000 in
theorem cright_no (op n : Int) (ov ot : Option Addr) (lv cv lt ct : Nat) (cb bb sb : Nat) (nc nk size : Int) (fr : Bool) (l : List Int) (sc : Int → Bool) (deep : Int) (W : World) (hc : ChkS W cb bb sb nc nk fr size l sc)
    (h0 : 0 ≤ size) (h1 : size + 1 ≤ 20000) (h2 : 0 ≤ deep) (h3 : deep ≤ 400) (f t le : Int) (any binds is : Bool) (qf qn : Bool) (hft : is = true → f ≤ 3) (hft2 : is = true → 3 ≤ t)
    (HSH : ∀ W, Calls Tryz.prog 100 #[.int .i64 op] W fun e w' => e = .returned (.tuple #[.agg #[.int .i64 f, .int .i64 t, .int .i64 le, .bool any, .bool binds], .bool is]) ∧ Below W.heap.size W w')
    (HFT : is = true → ∀ W, Calls Tryz.prog 101 #[.agg #[.int .i64 f, .int .i64 t, .int .i64 le, .bool any, .bool binds], .agg #[.int .i64 op, .int .i64 n, .slice ov lv cv, .slice ot lt ct]] W fun e w' => e = .returned (.bool qf) ∧ Below W.heap.size W w')
    (HNU : is = true → qf = true → ∀ W, ChkS W cb bb sb nc nk fr (size + 1) l sc → Calls Tryz.prog 102 #[.pointer (some ⟨cb, 0, none⟩), .agg #[.int .i64 op, .int .i64 n, .slice ov lv cv, .slice ot lt ct], .map (some sb)] W fun e w' => e = .returned (.bool qn) ∧ Below W.heap.size W w')
    (hno : (is && (qf && qn)) = false) :
    Calls Tryz.prog 69 #[.pointer (some ⟨cb, 0, none⟩), .agg #[.int .i64 op, .int .i64 n, .slice ov lv cv, .slice ot lt ct], .map (some sb), .int .i64 deep] W (ChkPost cb bb sb nc nk fr false (fun _ => False) W) := by
  have hmf : ∀ (fn : Fn) (first cap : Array Value) (w : World), (Instr.makeFunc fn first cap).run Tryz.prog w = .ok (.func fn first cap) w := fun _ _ _ _ => rfl
  obtain ⟨W1, hW1⟩ : ∃ W1, ((((W.alloc (.cells #[.pointer (some ⟨cb, 0, none⟩)] 100)).alloc (.cells #[.int .i64 op, .int .i64 n, .slice ov lv cv, .slice ot lt ct] 41)).alloc (.cells #[.map (some sb)] 101)).alloc (.cells #[.int .i64 deep] 3)).setCell ⟨cb, 4, none⟩ (.int .i64 (size + 1)) = W1 := ⟨_, rfl⟩
  have hbelow := below_four W (.cells #[.pointer (some ⟨cb, 0, none⟩)] 100) (.cells #[.int .i64 op, .int .i64 n, .slice ov lv cv, .slice ot lt ct] 41) (.cells #[.map (some sb)] 101) (.cells #[.int .i64 deep] 3)
  have HW := Lib.hid hW1
  have HT1 := Lib.hid (show Turned (S3 cb bb sb) W W1 from by rw [← hW1]; exact (Turned.of_below hbelow).next (Turned.set _ _ _ (.inl rfl)))
  have HC1 := Lib.hid (show ChkS W1 cb bb sb nc nk fr (size + 1) l sc from by rw [← hW1]; exact (hc.keep hbelow).sized _)
  have HX1 := Lib.hid (show RBox W1 W.heap.size cb sb op n (.slice ov lv cv) (.slice ot lt ct) deep from by
    rw [← hW1]
    exact (RBox.new W cb sb op n (.slice ov lv cv) (.slice ot lt ct) deep).turned (Turned.set (S := fun b => b = cb) _ _ _ rfl) (fun b hb => by rw [hb]; exact hc.box.lt))
  have c4 := (hc.box.keep hbelow).cell 4 rfl
  have cz := (hc.box.keep hbelow).free 4
  have cl := hc.box.lt
  have HC := Lib.hid hc
  have hft := Lib.hid hft
  have hft2 := Lib.hid hft2
  have HSH := Lib.hid HSH
  have HFT := Lib.hid HFT
  have HNU := Lib.hid HNU
  clear hW1 hbelow hc
  go_enter_defers Tryz.func69, Tryz.ntmps69
  go_upto_region 2 with fail
  rw [HW.out]
  have t0 := HX1.out.t.cell 0 rfl
  have tl := HX1.out.t.lt
  clear c4 cz cl
  go_wp2_with fail
  refine (HSH.out _).mono ?_
  rintro e w1 ⟨rfl, hb1⟩
  have HB1 := Lib.hid hb1
  clear hb1 HSH t0 tl
  go_upto_region 3 with fail
  obtain ⟨W3, hW3⟩ : ∃ W3, w1.alloc (.cells #[.int .i64 f, .int .i64 t, .int .i64 le, .bool any, .bool binds] 144) = W3 := ⟨_, rfl⟩
  have HB3 := Lib.hid (show Below W1.heap.size W1 W3 from by rw [← hW3]; exact Below.next HB1.out (Below.one w1 _))
  have B9 := Lib.hid (show BoxL W3 w1.heap.size 144 [.int .i64 f, .int .i64 t, .int .i64 le, .bool any, .bool binds] from by rw [← hW3]; exact BoxL.new rfl _ _)
  rw [hW3]
  clear hW3
  have HX3 := Lib.hid (HX1.out.turned (Turned.of_below (S := fun _ => False) HB3.out) (fun _ h => h.elim))
  have HC3 := Lib.hid (HC1.out.keep HB3.out)
  have HD := Lib.hid ((Below.refl W3.heap.size W3).drew)
  cases is with
  | false =>
    refine wp_region_quiet_all (Below W3.heap.size W3) (by kernel_rfl) (by kernel_rfl) HD.out ?_
    intro T0 _ WW HWW HWW2
    have x0 : ∀ t, (WW t).cell? _ = _ := fun t => ((HWW t).cell (p := ⟨W.heap.size, 0, none⟩) HX3.out.c.lt).trans (HX3.out.c.cell 0 rfl)
    have x1 : ∀ t, (WW t).cell? _ = _ := fun t => ((HWW t).cell (p := ⟨W.heap.size + 1, 0, none⟩) HX3.out.t.lt).trans (HX3.out.t.cell 0 rfl)
    have x2 : ∀ t, (WW t).cell? _ = _ := fun t => ((HWW t).cell (p := ⟨W.heap.size + 1, 1, none⟩) HX3.out.t.lt).trans (HX3.out.t.cell 1 rfl)
    have x3 : ∀ t, (WW t).cell? _ = _ := fun t => ((HWW t).cell (p := ⟨W.heap.size + 1, 2, none⟩) HX3.out.t.lt).trans (HX3.out.t.cell 2 rfl)
    have x4 : ∀ t, (WW t).cell? _ = _ := fun t => ((HWW t).cell (p := ⟨W.heap.size + 1, 3, none⟩) HX3.out.t.lt).trans (HX3.out.t.cell 3 rfl)
    have x5 : ∀ t, (WW t).cell? _ = _ := fun t => ((HWW t).cell (p := ⟨W.heap.size + 1 + 1, 0, none⟩) HX3.out.s.lt).trans (HX3.out.s.cell 0 rfl)
    have x6 : ∀ t, (WW t).cell? _ = _ := fun t => ((HWW t).cell (p := ⟨W.heap.size + 1 + 1 + 1, 0, none⟩) HX3.out.d.lt).trans (HX3.out.d.cell 0 rfl)
    have y0 : ∀ t, (WW t).cell? _ = _ := fun t => ((HWW t).cell (p := ⟨cb, 0, none⟩) HC3.out.box.lt).trans (HC3.out.box.cell 0 rfl)
    have y4 : ∀ t, (WW t).cell? _ = _ := fun t => ((HWW t).cell (p := ⟨cb, 4, none⟩) HC3.out.box.lt).trans (HC3.out.box.cell 4 rfl)
    have z0 : ∀ t, (WW t).cell? _ = _ := fun t => ((HWW t).cell (p := ⟨w1.heap.size, 0, none⟩) B9.out.lt).trans (B9.out.cell 0 rfl)
    have z1 : ∀ t, (WW t).cell? _ = _ := fun t => ((HWW t).cell (p := ⟨w1.heap.size, 1, none⟩) B9.out.lt).trans (B9.out.cell 1 rfl)
    have z2 : ∀ t, (WW t).cell? _ = _ := fun t => ((HWW t).cell (p := ⟨w1.heap.size, 2, none⟩) B9.out.lt).trans (B9.out.cell 2 rfl)
    have z3 : ∀ t, (WW t).cell? _ = _ := fun t => ((HWW t).cell (p := ⟨w1.heap.size, 3, none⟩) B9.out.lt).trans (B9.out.cell 3 rfl)
    have z4 : ∀ t, (WW t).cell? _ = _ := fun t => ((HWW t).cell (p := ⟨w1.heap.size, 4, none⟩) B9.out.lt).trans (B9.out.cell 4 rfl)
    have HWH := Lib.hid HWW
    have HW2 := Lib.hid HWW2
    clear HWW HWW2
    repeat (go_big_quiet_step (fail))
    refine wpQuiet_nil ?_
    intro t
    have HBB := Lib.hid (HWH.out t)
    clear x0 x1 x2 x3 x4 x5 x6 y0 y4 z0 z1 z2 z3 z4
    go_wp2_with fail
    refine ⟨_, results_tmp rfl _ _ _, rfl, HT1.out.next (Turned.of_below (Below.next HB3.out HBB.out)), fun h => by simp at h, fun _ => (HC3.out.keep HBB.out).bad⟩
  | true =>
    have f1 := hft.out rfl
    have f2 := hft2.out rfl
    have g0 : decide (400 < deep) = false := decide_eq_false (by omega)
    have g1 : decide (20000 < size + 1) = false := decide_eq_false (by omega)
    have g2 : decide (3 < f) = false := decide_eq_false (by omega)
    have g3 : decide (t < 3) = false := decide_eq_false (by omega)
    have HF := Lib.hid (HFT.out rfl)
    cases qf with
    | false =>
      refine wp_region_quiet_all (Below W3.heap.size W3) (by kernel_rfl) (by kernel_rfl) HD.out ?_
      intro T0 _ WW HWW HWW2
      have x0 : ∀ t, (WW t).cell? _ = _ := fun t => ((HWW t).cell (p := ⟨W.heap.size, 0, none⟩) HX3.out.c.lt).trans (HX3.out.c.cell 0 rfl)
      have x1 : ∀ t, (WW t).cell? _ = _ := fun t => ((HWW t).cell (p := ⟨W.heap.size + 1, 0, none⟩) HX3.out.t.lt).trans (HX3.out.t.cell 0 rfl)
      have x2 : ∀ t, (WW t).cell? _ = _ := fun t => ((HWW t).cell (p := ⟨W.heap.size + 1, 1, none⟩) HX3.out.t.lt).trans (HX3.out.t.cell 1 rfl)
      have x3 : ∀ t, (WW t).cell? _ = _ := fun t => ((HWW t).cell (p := ⟨W.heap.size + 1, 2, none⟩) HX3.out.t.lt).trans (HX3.out.t.cell 2 rfl)
      have x4 : ∀ t, (WW t).cell? _ = _ := fun t => ((HWW t).cell (p := ⟨W.heap.size + 1, 3, none⟩) HX3.out.t.lt).trans (HX3.out.t.cell 3 rfl)
      have x5 : ∀ t, (WW t).cell? _ = _ := fun t => ((HWW t).cell (p := ⟨W.heap.size + 1 + 1, 0, none⟩) HX3.out.s.lt).trans (HX3.out.s.cell 0 rfl)
      have x6 : ∀ t, (WW t).cell? _ = _ := fun t => ((HWW t).cell (p := ⟨W.heap.size + 1 + 1 + 1, 0, none⟩) HX3.out.d.lt).trans (HX3.out.d.cell 0 rfl)
      have y0 : ∀ t, (WW t).cell? _ = _ := fun t => ((HWW t).cell (p := ⟨cb, 0, none⟩) HC3.out.box.lt).trans (HC3.out.box.cell 0 rfl)
      have y4 : ∀ t, (WW t).cell? _ = _ := fun t => ((HWW t).cell (p := ⟨cb, 4, none⟩) HC3.out.box.lt).trans (HC3.out.box.cell 4 rfl)
      have z0 : ∀ t, (WW t).cell? _ = _ := fun t => ((HWW t).cell (p := ⟨w1.heap.size, 0, none⟩) B9.out.lt).trans (B9.out.cell 0 rfl)
      have z1 : ∀ t, (WW t).cell? _ = _ := fun t => ((HWW t).cell (p := ⟨w1.heap.size, 1, none⟩) B9.out.lt).trans (B9.out.cell 1 rfl)
      have z2 : ∀ t, (WW t).cell? _ = _ := fun t => ((HWW t).cell (p := ⟨w1.heap.size, 2, none⟩) B9.out.lt).trans (B9.out.cell 2 rfl)
      have z3 : ∀ t, (WW t).cell? _ = _ := fun t => ((HWW t).cell (p := ⟨w1.heap.size, 3, none⟩) B9.out.lt).trans (B9.out.cell 3 rfl)
      have z4 : ∀ t, (WW t).cell? _ = _ := fun t => ((HWW t).cell (p := ⟨w1.heap.size, 4, none⟩) B9.out.lt).trans (B9.out.cell 4 rfl)
      have HWH := Lib.hid HWW
      have HW2 := Lib.hid HWW2
      clear HWW HWW2
      have HC0 : Hid (∀ t', Calls Tryz.prog 101 #[.agg #[.int .i64 f, .int .i64 t, .int .i64 le, .bool any, .bool binds], .agg #[.int .i64 op, .int .i64 n, .slice ov lv cv, .slice ot lt ct]] (WW t') fun e w' => e = .returned (.bool false) ∧ ∃ t'', w' = WW t'') := Lib.hid (fun t' => calls_class HW2.out ((HF.out (WW t')).mono fun e w' h => ⟨h.1, Below.next (HWH.out t') h.2⟩))
      repeat (go_big_quiet_step (first | (go_at_call 101; exact HC0.out _)))
      refine wpQuiet_nil ?_
      intro t
      have HBB := Lib.hid (HWH.out t)
      clear x0 x1 x2 x3 x4 x5 x6 y0 y4 z0 z1 z2 z3 z4
      go_wp2_with fail
      refine ⟨_, results_tmp rfl _ _ _, rfl, HT1.out.next (Turned.of_below (Below.next HB3.out HBB.out)), fun h => by simp at h, fun _ => (HC3.out.keep HBB.out).bad⟩
    | true =>
      obtain rfl : qn = false := by simpa using hno
      have HN := Lib.hid (HNU.out rfl rfl)
      refine wp_region_quiet_all (Below W3.heap.size W3) (by kernel_rfl) (by kernel_rfl) HD.out ?_
      intro T0 _ WW HWW HWW2
      have x0 : ∀ t, (WW t).cell? _ = _ := fun t => ((HWW t).cell (p := ⟨W.heap.size, 0, none⟩) HX3.out.c.lt).trans (HX3.out.c.cell 0 rfl)
      have x1 : ∀ t, (WW t).cell? _ = _ := fun t => ((HWW t).cell (p := ⟨W.heap.size + 1, 0, none⟩) HX3.out.t.lt).trans (HX3.out.t.cell 0 rfl)
      have x2 : ∀ t, (WW t).cell? _ = _ := fun t => ((HWW t).cell (p := ⟨W.heap.size + 1, 1, none⟩) HX3.out.t.lt).trans (HX3.out.t.cell 1 rfl)
      have x3 : ∀ t, (WW t).cell? _ = _ := fun t => ((HWW t).cell (p := ⟨W.heap.size + 1, 2, none⟩) HX3.out.t.lt).trans (HX3.out.t.cell 2 rfl)
      have x4 : ∀ t, (WW t).cell? _ = _ := fun t => ((HWW t).cell (p := ⟨W.heap.size + 1, 3, none⟩) HX3.out.t.lt).trans (HX3.out.t.cell 3 rfl)
      have x5 : ∀ t, (WW t).cell? _ = _ := fun t => ((HWW t).cell (p := ⟨W.heap.size + 1 + 1, 0, none⟩) HX3.out.s.lt).trans (HX3.out.s.cell 0 rfl)
      have x6 : ∀ t, (WW t).cell? _ = _ := fun t => ((HWW t).cell (p := ⟨W.heap.size + 1 + 1 + 1, 0, none⟩) HX3.out.d.lt).trans (HX3.out.d.cell 0 rfl)
      have y0 : ∀ t, (WW t).cell? _ = _ := fun t => ((HWW t).cell (p := ⟨cb, 0, none⟩) HC3.out.box.lt).trans (HC3.out.box.cell 0 rfl)
      have y4 : ∀ t, (WW t).cell? _ = _ := fun t => ((HWW t).cell (p := ⟨cb, 4, none⟩) HC3.out.box.lt).trans (HC3.out.box.cell 4 rfl)
      have z0 : ∀ t, (WW t).cell? _ = _ := fun t => ((HWW t).cell (p := ⟨w1.heap.size, 0, none⟩) B9.out.lt).trans (B9.out.cell 0 rfl)
      have z1 : ∀ t, (WW t).cell? _ = _ := fun t => ((HWW t).cell (p := ⟨w1.heap.size, 1, none⟩) B9.out.lt).trans (B9.out.cell 1 rfl)
      have z2 : ∀ t, (WW t).cell? _ = _ := fun t => ((HWW t).cell (p := ⟨w1.heap.size, 2, none⟩) B9.out.lt).trans (B9.out.cell 2 rfl)
      have z3 : ∀ t, (WW t).cell? _ = _ := fun t => ((HWW t).cell (p := ⟨w1.heap.size, 3, none⟩) B9.out.lt).trans (B9.out.cell 3 rfl)
      have z4 : ∀ t, (WW t).cell? _ = _ := fun t => ((HWW t).cell (p := ⟨w1.heap.size, 4, none⟩) B9.out.lt).trans (B9.out.cell 4 rfl)
      have HWH := Lib.hid HWW
      have HW2 := Lib.hid HWW2
      clear HWW HWW2
      have HC0 : Hid (∀ t', Calls Tryz.prog 101 #[.agg #[.int .i64 f, .int .i64 t, .int .i64 le, .bool any, .bool binds], .agg #[.int .i64 op, .int .i64 n, .slice ov lv cv, .slice ot lt ct]] (WW t') fun e w' => e = .returned (.bool true) ∧ ∃ t'', w' = WW t'') := Lib.hid (fun t' => calls_class HW2.out ((HF.out (WW t')).mono fun e w' h => ⟨h.1, Below.next (HWH.out t') h.2⟩))
      have HC1 : Hid (∀ t', Calls Tryz.prog 102 #[.pointer (some ⟨cb, 0, none⟩), .agg #[.int .i64 op, .int .i64 n, .slice ov lv cv, .slice ot lt ct], .map (some sb)] (WW t') fun e w' => e = .returned (.bool false) ∧ ∃ t'', w' = WW t'') := Lib.hid (fun t' => calls_class HW2.out ((HN.out (WW t') (HC3.out.keep (HWH.out t'))).mono fun e w' h => ⟨h.1, Below.next (HWH.out t') h.2⟩))
      repeat (go_big_quiet_step (first | (go_at_call 101; exact HC0.out _) | (go_at_call 102; exact HC1.out _)))
      refine wpQuiet_nil ?_
      intro t
      have HBB := Lib.hid (HWH.out t)
      clear x0 x1 x2 x3 x4 x5 x6 y0 y4 z0 z1 z2 z3 z4
      go_wp2_with fail
      refine ⟨_, results_tmp rfl _ _ _, rfl, HT1.out.next (Turned.of_below (Below.next HB3.out HBB.out)), fun h => by simp at h, fun _ => (HC3.out.keep HBB.out).bad⟩
end Go.Proofs.YtigkhmppnnljiaaGreatDoor

namespace Go.Proofs.YtigkhmppnnljiaaGreatDoor
namespace Mdl
open Unt (named gives)

/-- A code's arguments' registers. -/
def argsG (c : Cod) (r : Int) : Prop := 0 ≤ r ∧ r < c.v.length
theorem proc_piece {c : Cod} {nc nk : Int} {fr : Bool} (hw : Trm.wf nc nk fr c.body (Trm.addV (fun _ => false) c.v) = true) (hn : (c.v ++ c.body.bnd).Nodup) : Mk.FragE (argsG c) 0 (Mk.proc Mk.lkL c).code ∧ (c.v.length : Int) ≤ (Mk.proc Mk.lkL c).regs ∧ (Mk.proc Mk.lkL c).args = c.v.length ∧ (Mk.proc Mk.lkL c).rest = c.rest ∧ (Mk.proc Mk.lkL c).alive = [] := by
  obtain ⟨seg, h1, h2, h3⟩ := Mk.lays_into c.body.all c.body (Nat.le_refl _) nc nk fr (Trm.addV (fun _ => false) c.v) 0 true ⟨[], c.v.length, c.v.zip ((List.range c.v.length).map fun (i : Nat) => (i : Int))⟩ (argsG c) hw
    (fun v hv => by
      have hm : v ∈ c.v := by simpa [Trm.addV] using hv
      have h := Mk.lkL_in c.v ((List.range c.v.length).map fun (i : Nat) => (i : Int)) [] v hm (by simp)
      rw [List.nil_append] at h
      simp only [List.mem_map, List.mem_range] at h
      obtain ⟨i, hi, e⟩ := h
      rw [← e]
      exact ⟨⟨by omega, by omega⟩, by simp, by dsimp only; omega⟩)
    (fun v hv hb => (List.nodup_append.1 hn).2.2 v (by simpa [Trm.addV] using hv) v hb rfl) (List.nodup_append.1 hn).2.1 (fun h => by cases h)
  have hc : (Mk.proc Mk.lkL c).code = seg := by
    show (Mk.into Mk.lkL c.body 0 true _).code = seg
    rw [h1.code]; rfl
  rw [hc]
  exact ⟨h3, h1.regs, rfl, rfl, rfl⟩
/-- Each procedure of a right module's unit, by its code. -/
theorem unit_procs {m : Mdl} (h : m.okB = true) : ∀ p ∈ (m.unit Mk.lkL).procs, ∃ c : Cod, p = Mk.proc Mk.lkL c ∧ Mk.FragE (argsG c) 0 p.code ∧ (c.v.length : Int) ≤ p.regs ∧ p.args = c.v.length ∧ p.rest = c.rest ∧ p.alive = [] := by
  rw [okB] at h
  simp only [Bool.and_eq_true] at h
  obtain ⟨_, ⟨h1, h2⟩, h3⟩ := h
  intro p hp
  rcases List.mem_append.1 hp with hp | hp
  · obtain ⟨c, hc, rfl⟩ := List.mem_map.1 hp
    have he := codes_each h3 c hc
    exact ⟨c, rfl, proc_piece he.1 he.2.1⟩
  · rw [List.mem_singleton.1 hp]
    exact ⟨_, rfl, proc_piece (c := ⟨[], false, m.body⟩) (by rw [Trm.addV_nil]; exact h1) (by simpa using ((Trm.newB_iff _ _).1 h2).2)⟩
end Mdl
end Go.Proofs.YtigkhmppnnljiaaGreatDoor

/-
  What the proofs lean on: UntRep, Awakes, Sames.
-/
import Derived.Lib.FrozenHead
import Derived.Lib.FrozenHead2
import Derived.Lib.OthersKept
import Derived.Laws.Externs
import Derived.Deep.LoopGhost
import Derived.OwnWalk
import Derived.Test.YtigkhmppnnljiaaGreatDoorPreA02
import Derived.Test.YtigkhmppnnljiaaGreatDoorPreA03
import Derived.Test.YtigkhmppnnljiaaGreatDoorPreA04
import Derived.Test.YtigkhmppnnljiaaGreatDoorPreA05
import Derived.Test.YtigkhmppnnljiaaGreatDoorPreA07
import Derived.Test.YtigkhmppnnljiaaGreatDoorPreA09
set_option maxRecDepth 100000
set_option maxHeartbeats 16000000
namespace Go.Proofs.YtigkhmppnnljiaaGreatDoor
section
open Go.RowKit Go.Deep Go.ChangeShapes Go.WideShapes Go.ChangeAt
def InsR (w : World) (B : Nat) (x : Ins) (cs : List Value) : Prop :=
 ∃ sl, cs = [.int .i64 x.op, .int .i64 x.d, .int .i64 x.a, .int .i64 x.b, sl] ∧ (-9223372036854775808 ≤ x.op ∧ x.op ≤ 9223372036854775807) ∧ (-9223372036854775808 ≤ x.d ∧ x.d ≤ 9223372036854775807) ∧
  (-9223372036854775808 ≤ x.a ∧ x.a ≤ 9223372036854775807) ∧ (-9223372036854775808 ≤ x.b ∧ x.b ≤ 9223372036854775807) ∧ SlC w B 1 IntR x.l sl
def IntsR (w : World) (B : Nat) (l : List Int) (cs : List Value) : Prop := ∃ sl, cs = [sl] ∧ SlC w B 1 IntR l sl
def ProcR (w : World) (B : Nat) (p : Proc) (cs : List Value) : Prop :=
 ∃ sl al, cs = [.int .i64 p.args, .bool p.rest, .int .i64 p.regs, sl, al] ∧ (-9223372036854775808 ≤ p.args ∧ p.args ≤ 9223372036854775807) ∧ (-9223372036854775808 ≤ p.regs ∧ p.regs ≤ 9223372036854775807) ∧
  SlC w B 5 (InsR w B) p.code sl ∧ SlC w B 1 (IntsR w B) p.alive al
def UntR (w : World) (B : Nat) (u : Unt) (v : Value) : Prop := ∃ c p, v = .agg #[c, p] ∧ RepS w B u.consts c ∧ SlC w B 5 (ProcR w B) u.procs p
theorem InsR.kept {w w' : World} {B : Nat} {x : Ins} {cs : List Value} (h : InsR w B x cs) (hb : Below B w w') : InsR w' B x cs := by
 obtain ⟨sl, h0, h1, h2, h3, h4, h5⟩ := h
 exact ⟨sl, h0, h1, h2, h3, h4, h5.kept hb fun _ _ _ h => h⟩
theorem InsR.wider {w : World} {B B' : Nat} {x : Ins} {cs : List Value} (h : InsR w B x cs) (hB : B ≤ B') : InsR w B' x cs := by
 obtain ⟨sl, h0, h1, h2, h3, h4, h5⟩ := h
 exact ⟨sl, h0, h1, h2, h3, h4, h5.wider hB⟩
theorem IntsR.kept {w w' : World} {B : Nat} {l : List Int} {cs : List Value} (h : IntsR w B l cs) (hb : Below B w w') : IntsR w' B l cs := by
 obtain ⟨sl, h0, h1⟩ := h
 exact ⟨sl, h0, h1.kept hb fun _ _ _ h => h⟩
theorem IntsR.wider {w : World} {B B' : Nat} {l : List Int} {cs : List Value} (h : IntsR w B l cs) (hB : B ≤ B') : IntsR w B' l cs := by
 obtain ⟨sl, h0, h1⟩ := h
 exact ⟨sl, h0, h1.wider hB⟩
theorem SlC.imp {α : Type} {w : World} {B size : Nat} {R R' : α → List Value → Prop} {l : List α} {v : Value} (h : SlC w B size R l v) (hR : ∀ x ∈ l, ∀ cs, R x cs → R' x cs) : SlC w B size R' l v := h.kept (Below.refl _ _) hR
theorem codeR_kept {w w' : World} {B : Nat} {l : List Ins} {v : Value} (h : SlC w B 5 (InsR w B) l v) (hb : Below B w w') : SlC w' B 5 (InsR w' B) l v := h.kept hb fun _ _ _ h => h.kept hb
theorem codeR_wider {w : World} {B B' : Nat} {l : List Ins} {v : Value} (h : SlC w B 5 (InsR w B) l v) (hB : B ≤ B') : SlC w B' 5 (InsR w B') l v := (h.wider hB).imp fun _ _ _ h => h.wider hB
theorem ProcR.kept {w w' : World} {B : Nat} {x : Proc} {cs : List Value} (h : ProcR w B x cs) (hb : Below B w w') : ProcR w' B x cs := by
 obtain ⟨sl, al, h0, h1, h2, h3, h4⟩ := h
 exact ⟨sl, al, h0, h1, h2, codeR_kept h3 hb, h4.kept hb fun _ _ _ h => h.kept hb⟩
theorem ProcR.wider {w : World} {B B' : Nat} {x : Proc} {cs : List Value} (h : ProcR w B x cs) (hB : B ≤ B') : ProcR w B' x cs := by
 obtain ⟨sl, al, h0, h1, h2, h3, h4⟩ := h
 exact ⟨sl, al, h0, h1, h2, codeR_wider h3 hB, (h4.wider hB).imp fun _ _ _ h => h.wider hB⟩
theorem procsR_kept {w w' : World} {B : Nat} {l : List Proc} {v : Value} (h : SlC w B 5 (ProcR w B) l v) (hb : Below B w w') : SlC w' B 5 (ProcR w' B) l v := h.kept hb fun _ _ _ h => h.kept hb
theorem procsR_wider {w : World} {B B' : Nat} {l : List Proc} {v : Value} (h : SlC w B 5 (ProcR w B) l v) (hB : B ≤ B') : SlC w B' 5 (ProcR w B') l v := (h.wider hB).imp fun _ _ _ h => h.wider hB
theorem UntR.kept {w w' : World} {B : Nat} {u : Unt} {v : Value} (h : UntR w B u v) (hb : Below B w w') : UntR w' B u v := by
 obtain ⟨c, p, h0, h1, h2⟩ := h
 exact ⟨c, p, h0, h1.kept hb, procsR_kept h2 hb⟩
theorem UntR.wider {w : World} {B B' : Nat} {u : Unt} {v : Value} (h : UntR w B u v) (hB : B ≤ B') : UntR w B' u v := by
 obtain ⟨c, p, h0, h1, h2⟩ := h
 exact ⟨c, p, h0, h1.wider hB, procsR_wider h2 hB⟩
def CellsG {α : Type} (size : Nat) (R : α → List Value → Prop) : List α → List Value → Prop
 | [], xs => xs = []
 | x :: l, xs => ∃ cs r, xs = cs ++ r ∧ cs.length = size ∧ R x cs ∧ CellsG size R l r
theorem CellsG.mono {α : Type} {size : Nat} {R R' : α → List Value → Prop} : ∀ {l : List α} {xs : List Value}, CellsG size R l xs → (∀ x ∈ l, ∀ cs, R x cs → R' x cs) → CellsG size R' l xs
 | [], _, h, _ => h
 | x :: l, _, ⟨cs, r, he, hs, hx, hr⟩, hk => ⟨cs, r, he, hs, hk x (by simp) _ hx, hr.mono fun y hy => hk y (by simp [hy])⟩
theorem CellsG.snoc {α : Type} {size : Nat} {R : α → List Value → Prop} {x : α} {cs : List Value} (hs : cs.length = size) (hx : R x cs) : ∀ {l : List α} {xs : List Value}, CellsG size R l xs → CellsG size R (l ++ [x]) (xs ++ cs)
 | [], _, h => by rw [CellsG] at h; subst h; exact ⟨cs, [], by simp, hs, hx, rfl⟩
 | _ :: l, _, ⟨cs', r, he, hs', hx', hr⟩ => ⟨cs', r ++ cs, by rw [he, List.append_assoc], hs', hx', hr.snoc hs hx⟩
theorem CellsG.at {α : Type} {size : Nat} {R : α → List Value → Prop} : ∀ {l : List α} {xs : List Value} {i : Nat} {x : α}, CellsG size R l xs → l[i]? = some x → ∃ cs, cs.length = size ∧ R x cs ∧ ∀ j u, cs[j]? = some u → xs[i * size + j]? = some u
 | [], _, i, x, _, hx => by simp at hx
 | y :: l, xs, 0, x, ⟨cs, r, he, hs, hy, hr⟩, hx => by
  simp only [List.getElem?_cons_zero, Option.some.injEq] at hx
  subst hx
  refine ⟨cs, hs, hy, fun j u hj => ?_⟩
  have := (List.getElem?_eq_some_iff.1 hj).1
  rw [he, Nat.zero_mul, Nat.zero_add, List.getElem?_append_left this]
  exact hj
 | y :: l, xs, i + 1, x, ⟨cs, r, he, hs, hy, hr⟩, hx => by
  obtain ⟨cs', h1, h2, h3⟩ := hr.at (i := i) (by simpa using hx)
  refine ⟨cs', h1, h2, fun j u hj => ?_⟩
  rw [he, List.getElem?_append_right (by rw [hs, Nat.add_mul]; omega), hs, show (i + 1) * size + j - size = i * size + j by rw [Nat.add_mul]; omega]
  exact h3 j u hj
theorem slC_of_row {α : Type} {w : World} {base size : Nat} {te : TypeId} {R : α → List Value → Prop} {v : Value} {l : List α} {xs : List Value} (hown : w.ownsRow base te size v l.length xs) (hc : CellsG size R l xs) : SlC w w.heap.size size R l v := by
 rcases hown.2 with ⟨hv, h0⟩ | ⟨g, cap, cur, hv, hb, hg, hle, hm, hsz, htk⟩
 ·have : l = [] := List.eq_nil_of_length_eq_zero h0
  subst this
  exact ⟨none, 0, 0, hv, rfl, by omega, by omega, rfl, rfl⟩
 ·have hlt := (Array.getElem?_eq_some_iff.1 hg).1
  refine ⟨some ⟨g, 0, none⟩, l.length, cap, hv, rfl, hle, by unfold maxLen at hm; omega, fun _ => ⟨rfl, hlt⟩, ?_⟩
  intro i x hx
  obtain ⟨cs, h1, h2, h3⟩ := hc.at hx
  refine ⟨cs, h1, fun j u hj => ?_, h2⟩
  have := h3 j u hj
  rw [← htk, List.getElem?_take] at this
  split at this
  ·unfold World.cell?
   simp only [hg, Nat.zero_add]
   simpa using this
  ·cases this
theorem new_cells (w : World) (cs : List Value) (t : TypeId) : ∀ (j : Nat) (u : Value), cs[j]? = some u → (w.alloc (.cells cs.toArray t)).cell? ((⟨w.heap.size, 0, none⟩ : Addr).add j) = some u := by
 intro j u hj
 have e : (⟨w.heap.size, 0, none⟩ : Addr).add j = ⟨w.heap.size, j, none⟩ := by unfold Addr.add; split <;> simp_all
 rw [e]
 exact box_cell w _ t j (by simpa using hj)
section
variable {H : Type} {enc : TypeId × Value → H}
theorem ints_of_trod {w : World} (fuel : Nat) (c4 : Value) (x4 : DataW H × List MemPlace) (g4 : DataW.trod enc Tryz.prog w 0 (fun _ => true) true fuel 32 [c4] = some x4) (w4 : ∀ n ∈ x4.1.weights Tryz.prog 32, n ≤ reachBytes) : ∃ l : List Int, SlC w w.heap.size 1 IntR l c4 :=
 slC_of_trod (te := 3) (bs := 8) Tryz.underlying32 (by kernel_rfl) (by kernel_rfl) (by omega) (by omega) (fun n' cs' y hy _ => by
  obtain ⟨k, e0, _, w0⟩ := DataW.trod_int Tryz.underlying3 hy
  exact ⟨k, e0, bd_i64 w0⟩) fuel c4 x4 g4 w4
end
end
section
open Go
section
variable {P : Program} {ops : Array Oper} {md : Region.Mode}
def backB (md : Region.Mode) (ops : Array Oper) : Bool := (List.range ops.size).all fun i => ((ops[i]?).map (·.after.all fun e => !Region.binds md e || decide (e.on < i))).getD true
theorem first_ready {n : Nat} {listed : Array Bool} (hb : backB md ops = true) (hs : listed.size = ops.size) (h : ∃ i, i < n ∧ i < ops.size ∧ listed.getD i true = false) : Region.ready md ops listed ≠ [] := by
 obtain ⟨i, hi⟩ := h
 induction i using Nat.strongRecOn with
 | _ i ih =>
  by_cases hr : i ∈ Region.ready md ops listed
  ·intro h0; rw [h0] at hr; cases hr
  ·obtain ⟨o, ho⟩ : ∃ o, ops[i]? = some o := ⟨_, Array.getElem?_eq_getElem hi.2.1⟩
   have : ∃ e ∈ o.after, Region.binds md e = true ∧ listed.getD e.on false = false := by
    apply Classical.byContradiction
    intro hn
    exact hr (mem_ready.2 ⟨hi.2.2, o, ho, fun e he hb' => by
     cases hl : listed.getD e.on false with
     | true => rfl
     | false => exact absurd ⟨e, he, hb', hl⟩ hn⟩)
   obtain ⟨e, he, hbe, hl⟩ := this
   have hlt : e.on < i := by
    have := List.all_eq_true.1 hb i (List.mem_range.2 hi.2.1)
    rw [ho] at this
    simp only [Option.map_some, Option.getD_some] at this
    have := Array.all_eq_true_iff_forall_mem.1 this e he
    simpa [hbe] using this
   exact ih e.on hlt ⟨by omega, by omega, getD_in (by rw [hs]; omega) hl⟩
theorem any_inv {n g : Nat} {I : Array Bool → Act → World → Prop} {Q : Exit → Act → World → Prop} (hb : backB md ops = true) (hs : Region.sinkB md ops n = true) (hc : Region.chainB md ops n = true) (hn : n < ops.size)
  (hstep : ∀ listed a w i, I listed a w → i < n → i ∈ Region.ready md ops listed → wpOp P ops Q i (fun a' w' => I (listed.setIfInBounds i true) a' w') a w)
  (hend : ∀ listed a w, I listed a w → HeadInv md ops n listed → (∀ i, i < n → listed.getD i true = true) → wpAny P md ops Q g listed a w) :
  ∀ (f : Nat) (listed : Array Bool) (a : Act) (w : World), ((List.range n).filter fun i => !listed.getD i true).length = f → HeadInv md ops n listed → I listed a w → wpAny P md ops Q (f + g) listed a w
 | 0, listed, a, w, hf, inv, h => by
  rw [Nat.zero_add]
  refine hend listed a w h inv fun i hi => ?_
  have h0 := List.eq_nil_of_length_eq_zero hf
  rw [List.filter_eq_nil_iff] at h0
  have := h0 i (List.mem_range.2 hi)
  simpa using this
 | f + 1, listed, a, w, hf, inv, h => by
  rw [show f + 1 + g = (f + g) + 1 by omega]
  have hex : ∃ i, i < n ∧ i < ops.size ∧ listed.getD i true = false := by
   obtain ⟨i, hi⟩ := List.exists_mem_of_length_pos (by rw [hf]; omega)
   rw [List.mem_filter, List.mem_range] at hi
   exact ⟨i, hi.1, by omega, by simpa using hi.2⟩
  refine ⟨fun h0 => absurd h0 (first_ready hb inv.size hex), fun i hi => ?_⟩
  have hin : i < n := by
   rcases Nat.lt_or_ge i n with h' | h'
   ·exact h'
   ·obtain ⟨j, hj, _, hjl⟩ := hex
    exact absurd hi (tail_waits hs hc hn inv _ j rfl hj hjl i h')
  refine wpOp_mono (fun a' w' h' => any_inv hb hs hc hn hstep hend f _ a' w' ?_ (inv.set hi hin) h') (hstep listed a w i h hin hi)
  have hun := (mem_ready.1 hi).1
  have hlt : i < listed.size := by rw [inv.size]; omega
  have e : ((List.range n).filter fun k => !listed.getD k true) = ((List.range n).filter fun k => !listed.getD k true) := rfl
  have key : ((List.range n).filter fun k => !(listed.setIfInBounds i true).getD k true) = (((List.range n).filter fun k => !listed.getD k true)).erase i := by
   rw [List.Nodup.erase_eq_filter (List.nodup_range.sublist List.filter_sublist), List.filter_filter]
   apply List.filter_congr
   intro k hk
   by_cases hki : k = i
   ·subst hki
    simp [hlt]
   ·rw [getD_set_ne true (Ne.symm hki)]
    simp [hki]
  rw [key, List.length_erase_of_mem (by rw [List.mem_filter, List.mem_range]; exact ⟨hin, by simpa using hun⟩), hf]
  rfl
def slotsB (ops : Array Oper) (n m : Nat) : Bool := (List.range n).all fun i => (List.range n).all fun j => match ops[i]?, ops[j]? with
 | some oi, some oj => (match oi.dst, oj.dst with | some d, some e => decide (d < m) && (decide (i = j) || decide (d ≠ e)) | _, _ => true)
 | _, _ => true
def guardsB (md : Region.Mode) (ops : Array Oper) (n m : Nat) (gs : List Nat) : Bool := (List.range n).all fun i => match ops[i]? with
 | some oi => (match oi.guard with
  | none => true
  | some (g, b) => b && (gs.contains g && (decide (g < n) && ((match ops[g]? with | some og => (match og.dst with | some d => decide (d < m) | none => false) | none => false) && oi.after.any fun e => Region.binds md e && e.on == g))))
 | none => true
def MonoI (ops : Array Oper) (n : Nat) (Ext : World → World → Prop) (R : Nat → Value → World → Prop) (w0 : World) (a0 : Act) (listed : Array Bool) (a : Act) (w : World) : Prop :=
 a.defers = a0.defers ∧ a.tmps.size = a0.tmps.size ∧ Ext w0 w ∧ (∀ i o d, i < n → ops[i]? = some o → listed.getD i false = true → o.dst = some d → R i (a.tmps.getD d undef) w) ∧
  (∀ t, (∀ i o, i < n → ops[i]? = some o → o.dst ≠ some t) → a.tmps.getD t undef = a0.tmps.getD t undef)
theorem put_getD {a : Act} {d t : Nat} {v : Value} (hd : d < a.tmps.size) : (a.put (some d) v).tmps.getD t undef = if d = t then v else a.tmps.getD t undef := by
 show (a.tmps.setIfInBounds d v).getD t undef = _
 by_cases h : d = t
 ·subst h
  simp [hd]
 ·rw [if_neg h]
  simp [Array.getElem?_setIfInBounds_ne h]
def OneStep (P : Program) (ops : Array Oper) (n : Nat) (Ext : World → World → Prop) (R : Nat → Value → World → Prop) (w0 : World) (a0 : Act) (Q : Exit → Act → World → Prop) (i : Nat) (o : Oper) : Prop :=
 ∀ (a : Act) (w : World) (K : Act → World → Prop), a.defers = a0.defers → a.tmps.size = a0.tmps.size → Ext w0 w → (∀ j oj d, j < n → ops[j]? = some oj → (∃ e ∈ o.after, Region.binds md e = true ∧ e.on = j) → oj.dst = some d → R j (a.tmps.getD d undef) w) →
  (∀ t, (∀ i o, i < n → ops[i]? = some o → o.dst ≠ some t) → a.tmps.getD t undef = a0.tmps.getD t undef) → (∀ v w', R i v w' → Ext w w' → K (a.put o.dst v) w') → o.wp P a w K Q
theorem wanted_of {n m : Nat} {gs : List Nat} {R : Nat → Value → World → Prop} {a : Act} {w : World} {i : Nat} {o : Oper} (hgd : guardsB md ops n m gs = true) (hG : ∀ g ∈ gs, ∀ v w, R g v w → v = .bool true) (hi : i < n) (ho : ops[i]? = some o) (hm : m ≤ a.tmps.size)
  (hdep : ∀ j oj d, j < n → ops[j]? = some oj → (∃ e ∈ o.after, Region.binds md e = true ∧ e.on = j) → oj.dst = some d → R j (a.tmps.getD d undef) w) : Region.wanted o (yielded ops a.tmps) = true := by
 have h1 := List.all_eq_true.1 hgd i (List.mem_range.2 hi)
 simp only [ho] at h1
 unfold Region.wanted
 cases hg : o.guard with
 | none => rfl
 | some p =>
  obtain ⟨g, b⟩ := p
  rw [hg] at h1
  simp only [Bool.and_eq_true, decide_eq_true_eq] at h1
  obtain ⟨rfl, h2, h3, h4, h5⟩ := h1
  cases hog : ops[g]? with
  | none => rw [hog] at h4; cases h4
  | some og =>
   rw [hog] at h4
   simp only at h4
   cases hd : og.dst with
   | none => rw [hd] at h4; cases h4
   | some d =>
    rw [hd] at h4
    simp only [decide_eq_true_eq] at h4
    rw [Array.any_eq_true'] at h5
    obtain ⟨e, he, hb⟩ := h5
    simp only [Bool.and_eq_true, beq_iff_eq] at hb
    have hv := hG g (List.contains_iff_mem.1 h2) _ _ (hdep g og d h3 hog ⟨e, he, hb.1, hb.2⟩ hd)
    have hlt : d < a.tmps.size := Nat.lt_of_lt_of_le h4 hm
    have hv2 : a.tmps[d]? = some (.bool true) := by
     rw [Array.getElem?_eq_getElem hlt]
     simpa [Array.getD, hlt] using hv
    simp [yielded, hog, hd, hv2]
theorem wpAny_mono {n : Nat} {Ext : World → World → Prop} {R : Nat → Value → World → Prop} {w0 : World} {a0 : Act} {Q : Exit → Act → World → Prop} (l : List Oper) (hl : l.toArray = ops) (hb : backB md ops = true) (hs : Region.sinkB md ops n = true) (hc : Region.chainB md ops n = true) (hn : n < ops.size) (hd : slotsB ops n a0.tmps.size = true) (gs : List Nat) (hgd : guardsB md ops n a0.tmps.size gs = true) (hG : ∀ g ∈ gs, ∀ v w, R g v w → v = .bool true)
  (hseq : ∀ listed, HeadInv md ops n listed → (∀ i, i < n → listed.getD i true = true) → Region.seqB md ops (ops.size - n) n listed = true)
  (htr : ∀ {A B C : World}, Ext A B → Ext B C → Ext A C) (h0 : Ext w0 w0) (hR : ∀ i v A B, i < n → R i v A → Ext A B → R i v B)
  (hops : ∀ i o, i < n → ops[i]? = some o → OneStep (md := md) P ops n Ext R w0 a0 Q i o)
  (hend : ∀ a w, a.defers = a0.defers → a.tmps.size = a0.tmps.size → Ext w0 w → (∀ i o d, i < n → ops[i]? = some o → o.dst = some d → R i (a.tmps.getD d undef) w) → (∀ t, (∀ i o, i < n → ops[i]? = some o → o.dst ≠ some t) → a.tmps.getD t undef = a0.tmps.getD t undef) → wpList P ops Q (l.drop n) a w) :
  wpAny P md ops Q ops.size (Array.replicate ops.size false) a0 w0 := by
 have hslot : ∀ i j oi oj d, i < n → j < n → ops[i]? = some oi → ops[j]? = some oj → oi.dst = some d → d < a0.tmps.size ∧ (oj.dst = some d → i = j) := by
  intro i j oi oj d hi hj hoi hoj hdi
  have h1 := List.all_eq_true.1 (List.all_eq_true.1 hd i (List.mem_range.2 hi)) i (List.mem_range.2 hi)
  have h2 := List.all_eq_true.1 (List.all_eq_true.1 hd i (List.mem_range.2 hi)) j (List.mem_range.2 hj)
  simp only [hoi, hoj, hdi, Bool.and_eq_true, decide_eq_true_eq] at h1 h2
  refine ⟨h1.1, fun he => ?_⟩
  rw [he] at h2
  have h3 := h2
  simp at h3
  exact h3.2
 have inv0 : HeadInv md ops n (Array.replicate ops.size false) :=
  ⟨by simp, fun j oj _ hl => (by rw [getD_replicate_false] at hl; cases hl), fun t _ ht => getD_in (by simpa using ht) (getD_replicate_false _ _)⟩
 have hcount : ((List.range n).filter fun i => !(Array.replicate ops.size false).getD i true).length = n := by
  rw [List.filter_eq_self.2]
  ·simp
  ·intro i hi
   have : i < ops.size := by have := List.mem_range.1 hi; omega
   simp [this]
 have := any_inv (P := P) (Q := Q) (g := ops.size - n) (I := MonoI ops n Ext R w0 a0) hb hs hc hn ?_ ?_ n _ a0 w0 hcount inv0
  ⟨rfl, rfl, h0, fun i o d _ _ hl => (by rw [getD_replicate_false] at hl; cases hl), fun _ _ => rfl⟩
 ·rwa [show n + (ops.size - n) = ops.size by omega] at this
 ·rintro listed a w i ⟨hdf, hsz, hex, hval, hoth⟩ hi hr
  obtain ⟨hun, o, ho, hdeps⟩ := mem_ready.1 hr
  unfold wpOp
  simp only [ho]
  have hdep2 := (fun j oj d hj hoj (h : ∃ e ∈ o.after, Region.binds md e = true ∧ e.on = j) hd' => by
   obtain ⟨e, he, hbe, hon⟩ := h
   exact hval j oj d hj hoj (by rw [← hon]; exact hdeps e he hbe) hd' : ∀ j oj d, j < n → ops[j]? = some oj → (∃ e ∈ o.after, Region.binds md e = true ∧ e.on = j) → oj.dst = some d → R j (a.tmps.getD d undef) w)
  rw [if_pos (wanted_of hgd hG hi ho (by rw [hsz]; exact Nat.le_refl _) hdep2)]
  left
  refine hops i o hi ho a w _ hdf hsz hex hdep2 hoth ?_
  intro v w' hRv hEx
  refine ⟨?_, ?_, htr hex hEx, ?_, ?_⟩
  ·cases o.dst <;> exact hdf
  ·cases hdst : o.dst with
   | none => exact hsz
   | some d => simpa [Act.put] using hsz
  ·intro k ok d hk hok hlk hdk
   by_cases hki : k = i
   ·subst hki
    obtain rfl : o = ok := Option.some.inj (ho.symm.trans hok)
    rw [hdk, put_getD (by rw [hsz]; exact (hslot k k o o d hk hk ho ho hdk).1), if_pos rfl]
    exact hRv
   ·rw [getD_set_ne false (Ne.symm hki)] at hlk
    have hv := hR k _ w w' hk (hval k ok d hk hok hlk hdk) hEx
    cases hdst : o.dst with
    | none => exact hv
    | some d' =>
     rw [put_getD (by rw [hsz]; exact (hslot i i o o d' hi hi ho ho hdst).1), if_neg ?_]
     ·exact hv
     ·rintro rfl
      exact hki ((hslot k i ok o d' hk hi hok ho hdk).2 hdst)
  ·intro t ht
   cases hdst : o.dst with
   | none => exact hoth t ht
   | some d' =>
    rw [put_getD (by rw [hsz]; exact (hslot i i o o d' hi hi ho ho hdst).1), if_neg ?_]
    ·exact hoth t ht
    ·rintro rfl; exact ht i o hi ho hdst
 ·rintro listed a w ⟨hdf, hsz, hex, hval, hoth⟩ inv hall
  subst hl
  have hdl : (l.drop n).length = l.toArray.size - n := by simp
  have h1 := wpAny_of_seq (md := md) (Q' := Q) (l.drop n) n listed a w (fun j => by simp [List.getElem?_drop]) (by rw [hdl]; exact hseq listed inv hall)
   (hend a w hdf hsz hex (fun i o d hi ho hd' => hval i o d hi ho (by
    have := hall i hi
    have hlt : i < listed.size := by rw [inv.size]; omega
    simpa [hlt] using this) hd') hoth)
  rwa [hdl] at h1
theorem wp_noPanic {o : Oper} {a : Act} {w : World} {K : Act → World → Prop} {Q : Exit → Act → World → Prop} (h : o.wp P a w K (fun _ _ _ => False)) : o.wp P a w K Q := by
  unfold Oper.wp at *
  generalize (execOp a.eval o).run P w = r at *
  cases r with
  | ok n w' =>
    cases n <;> simp only [Oper.upon] at h ⊢ <;>
      first
        | exact h
        | (refine Calls.mono h (fun e w'' he => ?_)
           cases e with
           | returned v => exact he
           | panicked c => exact he.elim
           | outgrown => obtain ⟨_, _, hf⟩ := he; exact hf.elim)
  | halt x w' => cases x <;> simp only [Oper.upon] at h ⊢ <;> exact h.elim
theorem wp_of_list {o : Oper} {a : Act} {w : World} {K : Act → World → Prop} {Q : Exit → Act → World → Prop} (hg : Region.wanted o (yielded ops a.tmps) = true)
    (h : wpList P ops (fun e a' w' => e = .normal ∧ K a' w') [o] a w) : o.wp P a w K Q := by
  unfold wpList at h
  rw [if_pos hg] at h
  rcases h with h | ⟨_, _, _, hf, _⟩
  · refine wp_noPanic (Oper.wp_mono (K := wpList P ops (fun e a' w' => e = .normal ∧ K a' w') []) (fun a' w' h' => (show (Exit.normal = Exit.normal ∧ K a' w') from h').2) ?_)
    have h2 : o.wp P a w (wpList P ops (fun e a' w' => e = .normal ∧ K a' w') []) (fun e a' w' => e = .normal ∧ K a' w') := h
    clear h
    unfold Oper.wp at *
    generalize (execOp a.eval o).run P w = r at *
    cases r with
    | ok n w' =>
      cases n <;> simp only [Oper.upon] at h2 ⊢ <;>
        first
          | exact h2
          | (refine Calls.mono h2 (fun e w'' he => ?_)
             cases e with
             | returned v => exact he
             | panicked c => cases he.1
             | outgrown => obtain ⟨_, _, hf, _⟩ := he; cases hf)
          | exact Rows.mono h2 (fun _ _ he => he)
    | halt x w' => cases x <;> simp only [Oper.upon] at h2 ⊢ <;> first | (cases h2.1) | exact h2
  · cases hf
def headDone (n m : Nat) : Array Bool := (List.replicate n true ++ List.replicate (m - n) false).toArray
theorem headDone_eq {n : Nat} {listed : Array Bool} (hn : n < ops.size) (inv : HeadInv md ops n listed) (h : ∀ i, i < n → listed.getD i true = true) : listed = headDone n ops.size := by
 apply Array.ext
 ·rw [inv.size]; simp [headDone]; omega
 ·intro i h1 h2
  simp only [headDone, List.getElem_toArray]
  by_cases hi : i < n
  ·rw [List.getElem_append_left (by simpa using hi)]
   have := h i hi
   simpa [h1] using this
  ·rw [List.getElem_append_right (by simpa using (by omega : n ≤ i))]
   have := inv.tail i (by omega) (by rw [← inv.size]; exact h1)
   simpa [h1] using this
def monoG (ops : Array Oper) (n m : Nat) : Bool :=
 backB .any ops && (Region.sinkB .any ops n && (Region.chainB .any ops n && (decide (n < ops.size) && (slotsB ops n m && Region.seqB .any ops (ops.size - n) n (headDone n ops.size)))))
def monoB (ops : Array Oper) (n m : Nat) : Bool := monoG ops n m && guardsB .any ops n m []
def Rest (ops : Array Oper) (n : Nat) (a0 a : Act) : Prop := ∀ t, (∀ i o, i < n → ops[i]? = some o → o.dst ≠ some t) → a.tmps.getD t undef = a0.tmps.getD t undef
def StepPost (R : Nat → Value → World → Prop) (Ext : World → World → Prop) (i : Nat) (o : Oper) (a : Act) (w1 : World) (e : Exit) (a' : Act) (w' : World) : Prop := e = .normal ∧ ∃ v, a' = a.put o.dst v ∧ R i v w' ∧ Ext w1 w'
theorem wp_region_mono_g {id : Nat} {Q : Exit → Act → World → Prop} {a0 : Act} {w : World} {l : List Oper} (n : Nat) (R : Nat → Value → World → Prop) (Ext : World → World → Prop) (hm : P.follows .mixedOrders = true) (gs : List Nat) (hB : monoG l.toArray n a0.tmps.size = true) (hgd : guardsB .any l.toArray n a0.tmps.size gs = true) (hG : ∀ g ∈ gs, ∀ v w, R g v w → v = .bool true)
  (htr : ∀ {A B C : World}, Ext A B → Ext B C → Ext A C) (h0 : Ext w.drew w.drew) (hR : ∀ i v A B, i < n → R i v A → Ext A B → R i v B)
  (hops : ∀ i o, i < n → l.toArray[i]? = some o → ∀ (a : Act) (w1 : World), a.defers = a0.defers → a.tmps.size = a0.tmps.size → Ext w.drew w1 → (∀ j oj d, j < n → l.toArray[j]? = some oj → (∃ e ∈ o.after, Region.binds .any e = true ∧ e.on = j) → oj.dst = some d → R j (a.tmps.getD d undef) w1) → Rest l.toArray n a0 a →
   wpList P l.toArray (StepPost R Ext i o a w1) [o] a w1)
  (hend : ∀ a w1, a.defers = a0.defers → a.tmps.size = a0.tmps.size → Ext w.drew w1 → (∀ i o d, i < n → l.toArray[i]? = some o → o.dst = some d → R i (a.tmps.getD d undef) w1) → Rest l.toArray n a0 a → wpList P l.toArray Q (l.drop n) a w1) :
  (Code.region id l.toArray true).wp P Q a0 w := by
 simp only [monoG, Bool.and_eq_true, decide_eq_true_eq] at hB
 obtain ⟨h1, h2, h3, h4, h5, h6⟩ := hB
 refine wp_region_any hm ?_
 refine wpAny_mono (Ext := Ext) (R := R) l rfl h1 h2 h3 h4 h5 gs hgd hG (fun listed inv hall => by rw [headDone_eq h4 inv hall]; exact h6) htr h0 hR ?_ hend
 intro i o hi ho a w1 K hdf hsz hex hdep hoth hK
 have hg := wanted_of hgd hG hi ho (by rw [hsz]; exact Nat.le_refl _) hdep
 refine Oper.wp_mono ?_ (wp_of_list (ops := l.toArray) hg (hops i o hi ho a w1 hdf hsz hex hdep hoth))
 rintro a' w' ⟨v, rfl, hRv, hEx⟩
 exact hK v w' hRv hEx
theorem wp_region_mono {id : Nat} {Q : Exit → Act → World → Prop} {a0 : Act} {w : World} {l : List Oper} (n : Nat) (R : Nat → Value → World → Prop) (Ext : World → World → Prop) (hm : P.follows .mixedOrders = true) (hB : monoB l.toArray n a0.tmps.size = true)
  (htr : ∀ {A B C : World}, Ext A B → Ext B C → Ext A C) (h0 : Ext w.drew w.drew) (hR : ∀ i v A B, i < n → R i v A → Ext A B → R i v B)
  (hops : ∀ i o, i < n → l.toArray[i]? = some o → ∀ (a : Act) (w1 : World), a.defers = a0.defers → a.tmps.size = a0.tmps.size → Ext w.drew w1 → (∀ j oj d, j < n → l.toArray[j]? = some oj → (∃ e ∈ o.after, Region.binds .any e = true ∧ e.on = j) → oj.dst = some d → R j (a.tmps.getD d undef) w1) → Rest l.toArray n a0 a →
   wpList P l.toArray (StepPost R Ext i o a w1) [o] a w1)
  (hend : ∀ a w1, a.defers = a0.defers → a.tmps.size = a0.tmps.size → Ext w.drew w1 → (∀ i o d, i < n → l.toArray[i]? = some o → o.dst = some d → R i (a.tmps.getD d undef) w1) → Rest l.toArray n a0 a → wpList P l.toArray Q (l.drop n) a w1) :
  (Code.region id l.toArray true).wp P Q a0 w := by
 simp only [monoB, Bool.and_eq_true] at hB
 exact wp_region_mono_g n R Ext hm [] hB.1 hB.2 (fun _ h => by cases h) htr h0 hR hops hend
def restB (ops : Array Oper) (n t : Nat) : Bool := (List.range n).all fun i => match ops[i]? with | some o => o.dst != some t | none => true
theorem Rest.at {n : Nat} {a0 a : Act} (h : Rest ops n a0 a) (t : Nat) (hB : restB ops n t = true) : a.tmps.getD t undef = a0.tmps.getD t undef :=
 h t fun i o hi ho => by
  have := List.all_eq_true.1 hB i (List.mem_range.2 hi)
  simpa [ho] using this
def depB (ops : Array Oper) (n : Nat) (o : Oper) (j d : Nat) : Bool := decide (j < n) && ((match ops[j]? with | some oj => oj.dst == some d | none => false) && o.after.any fun e => Region.binds .any e && e.on == j)
theorem dep_at {n : Nat} {o : Oper} {R : Nat → Value → World → Prop} {a : Act} {w1 : World} (h : ∀ j oj d, j < n → ops[j]? = some oj → (∃ e ∈ o.after, Region.binds .any e = true ∧ e.on = j) → oj.dst = some d → R j (a.tmps.getD d undef) w1) (j d : Nat) (hB : depB ops n o j d = true) : R j (a.tmps.getD d undef) w1 := by
 simp only [depB, Bool.and_eq_true, decide_eq_true_eq] at hB
 obtain ⟨h1, h2, h3⟩ := hB
 cases hj : ops[j]? with
 | none => rw [hj] at h2; cases h2
 | some oj =>
  rw [hj] at h2
  rw [Array.any_eq_true'] at h3
  obtain ⟨e, he, hb⟩ := h3
  simp only [Bool.and_eq_true, beq_iff_eq] at hb
  exact h j oj d h1 hj ⟨e, he, hb.1, hb.2⟩ (by simpa using h2)
end
end
section
open Go.RowKit
end
section
open Go.RowKit
def all2 (q : Dat → Dat → Bool) : List Dat → List Dat → Bool
 | [], [] => true
 | x :: l, y :: m => q x y && all2 q l m
 | _, _ => false
theorem all2_len {q : Dat → Dat → Bool} : ∀ {l m : List Dat}, all2 q l m = true → l.length = m.length
 | [], [], _ => rfl
 | x :: l, y :: m, h => by
  rw [all2, Bool.and_eq_true] at h
  simp [all2_len h.2]
 | [], _ :: _, h => by cases h
 | _ :: _, [], h => by cases h
theorem all2_false {q : Dat → Dat → Bool} : ∀ {l m : List Dat} {i : Nat} {x y : Dat}, l[i]? = some x → m[i]? = some y → q x y = false → all2 q l m = false
 | [], _, i, x, y, h, _, _ => by simp at h
 | _ :: _, [], i, x, y, _, h, _ => by simp at h
 | a :: l, b :: m, 0, x, y, h, h', hq => by
  simp only [List.getElem?_cons_zero, Option.some.injEq] at h h'
  subst h h'
  simp [all2, hq]
 | a :: l, b :: m, i + 1, x, y, h, h', hq => by
  rw [all2, all2_false (l := l) (m := m) (i := i) (by simpa using h) (by simpa using h') hq, Bool.and_false]
theorem all2_all {q : Dat → Dat → Bool} : ∀ {l m : List Dat}, l.length = m.length → (∀ (i : Nat) (x y : Dat), l[i]? = some x → m[i]? = some y → q x y = true) → all2 q l m = true
 | [], [], _, _ => rfl
 | x :: l, y :: m, h, H => by
  rw [all2, H 0 x y rfl rfl, all2_all (by simpa using h) (fun i a b ha hb => H (i + 1) a b (by simpa using ha) (by simpa using hb))]; rfl
 | [], _ :: _, h, _ => by simp at h
 | _ :: _, [], h, _ => by simp at h
theorem alikeL_all2 : ∀ l m : List Dat, Dat.alikeL l m = all2 Dat.alike l m
 | [], [] => rfl
 | x :: l, y :: m => by rw [Dat.alikeL, all2, alikeL_all2 l m]
 | [], _ :: _ => rfl
 | _ :: _, [] => rfl
end
section
open Go.RowKit
end
end Go.Proofs.YtigkhmppnnljiaaGreatDoor

/-
  What the proofs lean on: Peeps, RChk.
-/
import Derived.RangeFuncNested
import Derived.RangeFuncLeaves
import Derived.RangeFuncCalls
import Derived.Shelf.Abstract
import Derived.Shelf.RegionOpen
import Derived.OwnWalkIn
import Derived.TacticsInMore
import Derived.LoopNIn
import Derived.LoopIn
import Derived.ArgAppend
import Derived.Sort.LoopGhostIn
import Derived.WalkSpells
import Derived.Laws.AppendOwn
import Derived.Laws.OwnMore
import Derived.Deep.AppendLies
import Derived.Test.YtigkhmppnnljiaaGreatDoorLsoA05
import Derived.Test.YtigkhmppnnljiaaGreatDoorLsoA07
import Derived.Test.YtigkhmppnnljiaaGreatDoorLsoA13
import Derived.Test.YtigkhmppnnljiaaGreatDoorLsoA16
import Derived.Test.YtigkhmppnnljiaaGreatDoorLsoA18
import Derived.Test.YtigkhmppnnljiaaGreatDoorLsoA22
import Derived.Test.YtigkhmppnnljiaaGreatDoorLsoA27
import Derived.Test.YtigkhmppnnljiaaGreatDoorLsoA29
set_option maxRecDepth 100000
set_option maxHeartbeats 16000000
namespace Go.Proofs.YtigkhmppnnljiaaGreatDoor
section
open Go Go.RowKit
end
section
open Go Go.RowKit Go.Shelf
end
section
open Go Go.RowKit Go.Shelf
attribute [local go_sem] Oper.semAt_some
theorem own_row {W : World} {base n size : Nat} {e : TypeId} {v : Value} {xs : List Value} (h : W.ownsRow base e size v n xs) : ∀ r, v.ownBlock = some r → ∃ cs f, W.heap[r]? = some (.cells cs e f) := by
 intro r hr
 rcases h.2 with ⟨rfl, _⟩ | ⟨g, cap, cur, rfl, _, hgb, _⟩
 ·cases hr
 ·simp only [Value.ownBlock, Option.some.injEq] at hr
  subst hr
  exact ⟨_, _, hgb⟩
theorem info_bool : (Tryz.prog.info? 4).map (fun i => (i.zero, i.size, i.bytes)) = some (some (.bool false), 1, 1) := by kernel_rfl
end
section
open Go Go.RowKit
def Sub (S : Nat → Prop) (U W : World) : Prop := ∀ b o v, U.cell? ⟨b, o, none⟩ = some v → b < W.heap.size ∧ ¬ S b ∧ W.cell? ⟨b, o, none⟩ = some v
theorem Sub.step {S S' : Nat → Prop} {U W W' : World} (h : Sub S U W) (hs : W.heap.size ≤ W'.heap.size) (hb : ∀ b, b < W.heap.size → ¬ S b → W'.heap[b]? = W.heap[b]?) (hS : ∀ b, b < W.heap.size → S' b → S b) : Sub S' U W' := fun b o v hc => by
 obtain ⟨h1, h2, h3⟩ := h b o v hc
 refine ⟨Nat.lt_of_lt_of_le h1 hs, fun hn => h2 (hS b h1 hn), ?_⟩
 unfold World.cell? at h3 ⊢
 rw [show W'.heap[({ block := b, off := o, spot := none } : Addr).block]? = W.heap[b]? from hb b h1 h2]
 exact h3
theorem Sub.below {S : Nat → Prop} {U W W' : World} (h : Sub S U W) (hb : Below W.heap.size W W') : Sub S U W' := h.step hb.size (fun b hlt _ => hb.block b hlt) (fun _ _ h => h)
theorem Sub.set {S : Nat → Prop} {U W : World} (h : Sub S U W) (a : Addr) (v : Value) (ha : S a.block) : Sub S U (W.setCell a v) := h.step (by rw [World.size_setCell]; exact Nat.le_refl _) (fun b _ hn => setCell_heap_other W a v (fun e => hn (e ▸ ha))) (fun _ _ h => h)
theorem Sub.of_gap {S : Nat → Prop} {W : World} {H : Nat} (hS : ∀ b, S b → b < H) : Sub S (gap W 0 H) W := fun b o v hc => by
 obtain ⟨h1, h2⟩ := gap_some hc
 exact ⟨cell_lt h2, fun hb => h1 ⟨Nat.zero_le _, hS b hb⟩, h2⟩
theorem Sub.cells {S : Nat → Prop} {U W : World} (h : Sub S U W) : ∀ b o v, U.cell? ⟨b, o, none⟩ = some v → W.cell? ⟨b, o, none⟩ = some v := fun b o v hc => (h b o v hc).2.2
theorem codeR_cells {U W : World} {B : Nat} {l : List Ins} {v : Value} (h : SlC U B 5 (InsR U B) l v) (hk : ∀ b o u, U.cell? ⟨b, o, none⟩ = some u → W.cell? ⟨b, o, none⟩ = some u) : SlC W B 5 (InsR W B) l v := h.cells hk fun _ _ _ h => h.cells hk
end
section
open Go.RowKit
end
section
open Go
theorem slots_at {ops : Array Oper} {n m i j d e : Nat} {oi oj : Oper} (h : slotsB ops n m = true) (hi : i < n) (hj : j < n) (hoi : ops[i]? = some oi) (hoj : ops[j]? = some oj) (hd : oi.dst = some d) (he : oj.dst = some e) : d < m ∧ (i = j ∨ d ≠ e) := by
 have := List.all_eq_true.1 (List.all_eq_true.1 h i (List.mem_range.2 hi)) j (List.mem_range.2 hj)
 simp only [hoi, hoj, hd, he, Bool.and_eq_true, decide_eq_true_eq, Bool.or_eq_true] at this
 exact this
theorem no_guard {ops : Array Oper} {n m i : Nat} {o : Oper} (h : guardsB .any ops n m [] = true) (hi : i < n) (ho : ops[i]? = some o) : o.guard = none := by
 have := List.all_eq_true.1 h i (List.mem_range.2 hi)
 simp only [ho] at this
 cases hg : o.guard with
 | none => rfl
 | some p =>
  obtain ⟨g, b⟩ := p
  rw [hg] at this
  simp at this
section
variable {P : Program} {ops : Array Oper} {o : Oper} {a : Act} {w w' : World}
theorem wpList_bs1 {Q : Exit → Act → World → Prop} {t s : Nat} {x v : Value} (hg : o.guard = none) (ho : o.op = .buildSlice t 1 #[(0, .tmp s)]) (hx : a.tmps.getD s undef = x) (hm : (Instr.buildSlice t 1 #[(0, x)]).run P w = .ok v w') (hQ : Q .normal (a.put o.dst v) w') : wpList P ops Q [o] a w := by
 refine wpList_value (v := v) (w' := w') hg ?_ hQ
 have hmap : (#[(0, Operand.tmp s)] : Array (Nat × Operand)).map (fun (i, x) => (i, a.eval x)) = #[(0, x)] := by
  simp only [List.map_toArray, List.map_cons, List.map_nil]
  rw [← hx]; rfl
 unfold execOp
 rw [ho]
 show (do let r ← Instr.buildSlice t 1 ((#[(0, Operand.tmp s)] : Array (Nat × Operand)).map (fun (i, x) => (i, a.eval x))); pure (Next.value r) : Sem Next).run P w = _
 rw [hmap]
 simp only [Sem.run_bind, Sem.run_pure, hm, Result.andThen_ok]
end
end
section
open Go Go.RowKit
namespace Peep
end Peep
def ProcN (W : World) (S : Nat → Prop) (p : Proc) (cs : List Value) : Prop :=
 ∃ U B sl, Sub S U W ∧ B ≤ W.heap.size ∧ cs = [.int .i64 p.args, .bool p.rest, .int .i64 p.regs, sl, .slice none 0 0] ∧ (-9223372036854775808 ≤ p.args ∧ p.args ≤ 9223372036854775807) ∧ (-9223372036854775808 ≤ p.regs ∧ p.regs ≤ 9223372036854775807) ∧ SlC U B 5 (InsR U B) p.code sl ∧ p.alive = []
theorem ProcN.to {W W' : World} {S S' : Nat → Prop} {p : Proc} {cs : List Value} (h : ProcN W S p cs) (hs : ∀ U, Sub S U W → Sub S' U W') (hz : W.heap.size ≤ W'.heap.size) : ProcN W' S' p cs := by
 obtain ⟨U, B, sl, h1, h2, h3⟩ := h
 exact ⟨U, B, sl, hs U h1, Nat.le_trans h2 hz, h3⟩
theorem ProcN.read {W : World} {S : Nat → Prop} {p : Proc} {cs : List Value} (h : ProcN W S p cs) : ProcR W W.heap.size p cs := by
 obtain ⟨U, B, sl, h1, h2, rfl, h4, h5, h6, h7⟩ := h
 exact ⟨sl, _, rfl, h4, h5, codeR_wider (codeR_cells h6 h1.cells) h2, by rw [h7]; exact ⟨none, 0, 0, rfl, rfl, by omega, by omega, rfl, rfl⟩⟩
theorem info_procC : (Tryz.prog.info? 31).map (fun i => (i.zero, i.size, i.bytes)) = some (some (.agg #[.int .i64 0, .bool false, .int .i64 0, .slice none 0 0, .slice none 0 0]), 5, 72) := by kernel_rfl
theorem RepS.cellsTo {U W : World} {B : Nat} {l : List Dat} {v : Value} (h : RepS U B l v) (hk : ∀ b o u, U.cell? ⟨b, o, none⟩ = some u → W.cell? ⟨b, o, none⟩ = some u) (hB : B ≤ W.heap.size) : RepS W W.heap.size l v := (RepS.mono hk h).wider hB
theorem grown_drew {A B : World} {row : Option Nat} (h : A.drew.grownBy B row) : A.grownBy B row := ⟨h.os, h.tape, h.output, h.size, h.block⟩
end
section
open Go Go.RowKit
namespace Peep
end Peep
end
section
namespace Trm
mutual
def rchk (nc nk : Int) (fr : Bool) : Trm → List Int → Int → Int × List Int → Option (Int × List Int)
 | mk op n v t, sc, deep, s =>
  if (decide (deep ≤ 400) && (decide (s.1 + 1 ≤ 20000) && (sortB op && (countsB op v.length t.length && numberB nc nk fr (fun x => sc.contains x) op n)))) = true then
   (if newB (fun _ => false) (s.2 ++ v) = true then rchkL nc nk fr op v t sc deep (s.1 + 1, s.2 ++ v) else none)
  else none
def rchkL (nc nk : Int) (fr : Bool) : Int → List Int → List Trm → List Int → Int → Int × List Int → Option (Int × List Int)
 | _, _, [], _, _, s => some s
 | _, v, [x], sc, deep, s => rchk nc nk fr x (sc ++ v) (deep + 1) s
 | op, v, x :: y :: l, sc, deep, s =>
  if op = 9 ∧ x.op ≠ 19 then none
  else match rchk nc nk fr x (if op = 9 then sc ++ v else sc) (deep + 1) s with
   | some s' => rchkL nc nk fr op v (y :: l) sc deep s'
   | none => none
end
theorem addV_contains (sc v : List Int) : addV (fun x => sc.contains x) v = fun x => (sc ++ v).contains x := by
 funext x
 simp [addV, Bool.decide_or]
def RSay (x : Trm) : Prop := ∀ (nc nk : Int) (fr : Bool) (sc : List Int) (deep : Int) (s r : Int × List Int), newB (fun _ => false) s.2 = true → rchk nc nk fr x sc deep s = some r → wf nc nk fr x (fun y => sc.contains y) = true ∧ r = (s.1 + x.all, s.2 ++ x.bnd) ∧ newB (fun _ => false) (s.2 ++ x.bnd) = true ∧ s.1 + x.all ≤ 20000
theorem rsayL : ∀ (t : List Trm), (∀ x ∈ t, RSay x) → ∀ (op : Int) (v : List Int) (nc nk : Int) (fr : Bool) (sc : List Int) (deep : Int) (s r : Int × List Int), newB (fun _ => false) s.2 = true → s.1 ≤ 20000 → rchkL nc nk fr op v t sc deep s = some r → wfL nc nk fr op v t (fun y => sc.contains y) = true ∧ r = (s.1 + allL t, s.2 ++ bndL t) ∧ newB (fun _ => false) (s.2 ++ bndL t) = true ∧ s.1 + allL t ≤ 20000
 | [], _, op, v, nc, nk, fr, sc, deep, s, r, hn, hs, h => by
  rw [rchkL] at h
  obtain rfl := Option.some.inj h
  simp only [wfL, allL, bndL, List.append_nil]
  exact ⟨trivial, by simp, hn, by simpa using hs⟩
 | [x], ih, op, v, nc, nk, fr, sc, deep, s, r, hn, hs, h => by
  rw [rchkL] at h
  have h1 := ih x (by simp) nc nk fr _ _ s r hn h
  rw [wfL, addV_contains]
  simpa [allL, bndL] using h1
 | x :: y :: l, ih, op, v, nc, nk, fr, sc, deep, s, r, hn, hs, h => by
  rw [rchkL] at h
  by_cases h9 : op = 9 ∧ x.op ≠ 19
  ·rw [if_pos h9] at h; cases h
  rw [if_neg h9] at h
  cases hx : rchk nc nk fr x (if op = 9 then sc ++ v else sc) (deep + 1) s with
  | none => rw [hx] at h; cases h
  | some s' =>
   rw [hx] at h
   have h1 := ih x (by simp) nc nk fr _ _ s s' hn hx
   obtain ⟨h1, rfl, h3, h4⟩ := h1
   have h2 := rsayL (y :: l) (fun z hz => ih z (by simp [hz])) op v nc nk fr sc deep _ r h3 h4 h
   obtain ⟨g1, rfl, g3, g4⟩ := h2
   rw [wfL]
   refine ⟨?_, ?_, ?_, ?_⟩
   ·rw [g1, Bool.and_true]
    by_cases ho : op = 9
    ·rw [if_pos ho] at h1 ⊢
     have : x.op = 19 := by
      by_cases hx9 : x.op = 19
      ·exact hx9
      ·exact absurd ⟨ho, hx9⟩ h9
     rw [addV_contains, h1, this]
     rfl
    ·rw [if_neg ho] at h1 ⊢
     exact h1
   ·rw [allL.eq_2 x, bndL.eq_2 x]
    simp only [List.append_assoc, Prod.mk.injEq, and_true]
    omega
   ·rw [bndL.eq_2 x]
    simpa only [List.append_assoc] using g3
   ·rw [allL.eq_2 x]
    dsimp only at g4
    omega
theorem rsay (x : Trm) : RSay x := by
 induction x using Trm.ind with
 | _ op n v t ih =>
 intro nc nk fr sc deep s r hn h
 rw [rchk] at h
 split at h
 ·rename_i hc
  split at h
  ·rename_i hv
   simp only [Bool.and_eq_true, decide_eq_true_eq] at hc
   obtain ⟨_, h2, h3, h4, h5⟩ := hc
   have h6 := rsayL t ih op v nc nk fr sc deep _ r hv h2 h
   obtain ⟨g1, rfl, g3, g4⟩ := h6
   rw [wf, h3, h4, h5, g1]
   refine ⟨rfl, ?_, ?_, ?_⟩
   ·rw [all, bnd]
    simp only [List.append_assoc, Prod.mk.injEq, and_true]
    omega
   ·rw [bnd]
    simpa only [List.append_assoc] using g3
   ·rw [all]
    dsimp only at g4
    omega
  ·cases h
 ·cases h
end Trm
namespace Mdl
def rcodes (nc nk : Int) : List Cod → Int × List Int → Option (Int × List Int)
 | [], s => some s
 | c :: l, s =>
  if (Trm.newB (fun _ => false) (s.2 ++ c.v) && (!c.rest || decide (0 < c.v.length))) = true then
   (match Trm.rchk nc nk true c.body c.v 0 (s.1, s.2 ++ c.v) with
    | some s' => rcodes nc nk l s'
    | none => none)
  else none
def rokB (m : Mdl) : Bool := (m.consts.all fun x => Dat.right x 0) && (match Trm.rchk m.consts.length m.codes.length false m.body [] 0 (0, []) with
 | some s => (rcodes m.consts.length m.codes.length m.codes s).isSome
 | none => false)
end Mdl
end
end Go.Proofs.YtigkhmppnnljiaaGreatDoor

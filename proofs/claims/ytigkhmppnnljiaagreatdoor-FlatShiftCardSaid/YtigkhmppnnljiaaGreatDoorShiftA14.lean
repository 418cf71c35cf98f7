/-
  What the proofs lean on: MapV, TrmN.
-/
import Derived.Maps.OwnSet
import Derived.WideKeyEntry
import Derived.Test.YtigkhmppnnljiaaGreatDoorShiftA08
import Derived.Test.YtigkhmppnnljiaaGreatDoorShiftA09
import Derived.Test.YtigkhmppnnljiaaGreatDoorShiftA10
namespace Go.Proofs.YtigkhmppnnljiaaGreatDoor
open Go Go.RowKit Go.Maps Go.ChangeMaps Go.MapKept
open Go.WideElems (Fit findIdx_born findIdx_arr modify_last set_self )

theorem key_int : Keyed Tryz.prog 3 := int_keyed Tryz.underlying3
theorem isKeyZ (x : Int) : WideAt.IsKeyLit (.int .i64 x) := by simp [WideAt.IsKeyLit]
theorem zeroB (w : World) : (zeroValue 4).run Tryz.prog w = .ok (.bool false) w := by kernel_rfl
theorem zeroI (w : World) : (zeroValue 3).run Tryz.prog w = .ok (.int .i64 0) w := by kernel_rfl
theorem wf_i64 {x : Int} (h : I64 x) : (Lit.int .i64 x).wf = true := by
  have h1 := h.1
  have h2 := h.2
  have e1 : IntKind.i64.min = -9223372036854775808 := by decide
  have e2 : IntKind.i64.max = 9223372036854775807 := by decide
  simp [Lit.wf, e1, e2]; omega
theorem keyOf_i64 {x : Int} (h : I64 x) : keyOf Tryz.prog 3 (.int .i64 x) = some (.int .i64 x) := keyOf_int_mk Tryz.underlying3 (wf_i64 h)

/-- A map[int]bool, by the function that it is. -/
def MapVB (W : World) (b n : Nat) (f : Int → Bool) : Prop := ∃ D : DataW Unit, W.ownsMap Tryz.prog 3 (plainElem Tryz.prog 4) b n D ∧ IsMap D ∧ ∀ x, D.atKey (.int .i64 x) (.lit (.bool false)) = .lit (.bool (f x))
/-- A map[int]int. -/
def MapVI (W : World) (b n : Nat) (f : Int → Int) : Prop := ∃ D : DataW Unit, W.ownsMap Tryz.prog 3 (plainElem Tryz.prog 3) b n D ∧ IsMap D ∧ ∀ x, D.atKey (.int .i64 x) (.lit (.int .i64 0)) = .lit (.int .i64 (f x))
theorem MapVB.new (W : World) : MapVB (W.alloc (.map #[] 0)) W.heap.size 0 (fun _ => false) := ⟨_, World.ownsMap_made _ _ _ _, isMap_empty, fun x => by simp [DataW.atKey]⟩
theorem MapVI.new (W : World) : MapVI (W.alloc (.map #[] 0)) W.heap.size 0 (fun _ => 0) := ⟨_, World.ownsMap_made _ _ _ _, isMap_empty, fun x => by simp [DataW.atKey]⟩
theorem MapVB.lt {W : World} {b n : Nat} {f : Int → Bool} (h : MapVB W b n f) : b < W.heap.size := let ⟨_, h, _⟩ := h; h.lt
theorem MapVI.lt {W : World} {b n : Nat} {f : Int → Int} (h : MapVI W b n f) : b < W.heap.size := let ⟨_, h, _⟩ := h; h.lt
theorem ownsMap_block {P : Program} {k : TypeId} {R : Value → Option (DataW Unit × List MemPlace)} {W W' : World} {b n : Nat} {D : DataW Unit} (h : W.ownsMap P k R b n D) (hb : W'.heap[b]? = W.heap[b]?) : W'.ownsMap P k R b n D := by
  obtain ⟨es, clock, h1, h2⟩ := h
  exact ⟨es, clock, hb.trans h1, h2⟩
theorem MapVB.same {W W' : World} {b n : Nat} {f : Int → Bool} (h : MapVB W b n f) (hb : W'.heap[b]? = W.heap[b]?) : MapVB W' b n f := let ⟨D, h1, h2⟩ := h; ⟨D, ownsMap_block h1 hb, h2⟩
theorem MapVI.same {W W' : World} {b n : Nat} {f : Int → Int} (h : MapVI W b n f) (hb : W'.heap[b]? = W.heap[b]?) : MapVI W' b n f := let ⟨D, h1, h2⟩ := h; ⟨D, ownsMap_block h1 hb, h2⟩
theorem MapVB.keep {W W' : World} {b n : Nat} {f : Int → Bool} (h : MapVB W b n f) (hb : Below W.heap.size W W') : MapVB W' b n f := h.same (hb.block _ h.lt)
theorem MapVI.keep {W W' : World} {b n : Nat} {f : Int → Int} (h : MapVI W b n f) (hb : Below W.heap.size W W') : MapVI W' b n f := h.same (hb.block _ h.lt)
theorem MapVB.mono {W : World} {b n n' : Nat} {f : Int → Bool} (h : MapVB W b n f) (hn : n ≤ n') : MapVB W b n' f := let ⟨D, h1, h2⟩ := h; ⟨D, h1.mono hn, h2⟩
theorem MapVB.put {D : DataW Unit} {f : Int → Bool} (hD : IsMap D) (hf : ∀ x, D.atKey (.int .i64 x) (.lit (.bool false)) = .lit (.bool (f x))) (k : Int) (c : Bool) : ∀ x, (D.put (.int .i64 k) (.lit (.bool c))).atKey (.int .i64 x) (.lit (.bool false)) = .lit (.bool (if x = k then c else f x)) := fun x => by
  by_cases h : x = k
  · subst h; rw [atKey_put_same hD (isKeyZ x), if_pos rfl]
  · rw [atKey_put_other (by intro e; simp only [Lit.int.injEq, true_and] at e; omega), hf x, if_neg h]
theorem MapVI.put {D : DataW Unit} {f : Int → Int} (hD : IsMap D) (hf : ∀ x, D.atKey (.int .i64 x) (.lit (.int .i64 0)) = .lit (.int .i64 (f x))) (k : Int) (c : Int) : ∀ x, (D.put (.int .i64 k) (.lit (.int .i64 c))).atKey (.int .i64 x) (.lit (.int .i64 0)) = .lit (.int .i64 (if x = k then c else f x)) := fun x => by
  by_cases h : x = k
  · subst h; rw [atKey_put_same hD (isKeyZ x), if_pos rfl]
  · rw [atKey_put_other (by intro e; simp only [Lit.int.injEq, true_and] at e; omega), hf x, if_neg h]
theorem MapVB.del {D : DataW Unit} {f : Int → Bool} (hf : ∀ x, D.atKey (.int .i64 x) (.lit (.bool false)) = .lit (.bool (f x))) (k : Int) : ∀ x, (D.del (.int .i64 k)).atKey (.int .i64 x) (.lit (.bool false)) = .lit (.bool (if x = k then false else f x)) := fun x => by
  by_cases h : x = k
  · subst h; rw [atKey_del_same, if_pos rfl]
  · rw [atKey_del_other (by intro e; simp only [Lit.int.injEq, true_and] at e; omega), hf x, if_neg h]

section
variable {w : World} {ops : Array Oper} {rest : List Oper} {o : Oper} {a : Act} {Q : Exit → Act → World → Prop}
/-- 'm[k]' of bools. -/
theorem wpList_lookVB (hg : Region.wanted o (yielded ops a.tmps) = true) (m x : Operand) (hop : o.op = Op.lookup 101 m x false) (b n : Nat) (f : Int → Bool) (hm : a.eval m = .map (some b)) (hown : MapVB w b n f) (k : Int) (hx : a.eval x = .int .i64 k) (hk : I64 k)
    (hK : wpList Tryz.prog ops Q rest (a.put o.dst (.bool (f k))) w) : wpList Tryz.prog ops Q (o :: rest) a w := by
  obtain ⟨D, h1, h2, h3⟩ := hown
  exact wpList_lookup_own_bool w hg m x _ hop 3 4 key_int Tryz.underlying101 Tryz.underlying4 (zeroB w) b n D hm h1 _ _ hx (keyOf_i64 hk) (f k) (h3 k) hK
/-- 'm[k] = v' of ints. -/
theorem wpList_putVI (hg : o.guard = none) (m x v : Operand) (hop : o.op = Op.mapUpdate 108 m x v) (b n : Nat) (f : Int → Int) (hm : a.eval m = .map (some b)) (hown : MapVI w b n f) (hn : n < 1000000000000) (k c : Int) (hx : a.eval x = .int .i64 k) (hv : a.eval v = .int .i64 c) (hk : I64 k) (hc : I64 c)
    (hK : ∀ w', MapVI w' b (n + 1) (fun x => if x = k then c else f x) → w.grownBy w' (some b) → wpList Tryz.prog ops Q rest (a.put o.dst undef) w') : wpList Tryz.prog ops Q (o :: rest) a w := by
  obtain ⟨D, h1, h2, h3⟩ := hown
  refine wpList_mapUpdate_own w hg m x v _ hop 3 3 key_int Tryz.underlying108 _ b n D hm h1 (by unfold maxLen; omega) _ _ _ hx hv (keyOf_i64 hk) _ _ (plainElem_int Tryz.underlying3 (wf_i64 hc)) ?_
  intro w' h4 h5
  exact hK w' ⟨_, h4, h2.put _ _, MapVI.put h2 h3 k c⟩ h5
/-- 'm[k] = v' of bools. -/
theorem wpList_putVB (hg : o.guard = none) (m x v : Operand) (hop : o.op = Op.mapUpdate 101 m x v) (b n : Nat) (f : Int → Bool) (hm : a.eval m = .map (some b)) (hown : MapVB w b n f) (hn : n < 1000000000000000) (k : Int) (c : Bool) (hx : a.eval x = .int .i64 k) (hv : a.eval v = .bool c) (hk : I64 k)
    (hK : ∀ w', MapVB w' b (n + 1) (fun x => if x = k then c else f x) → w.grownBy w' (some b) → wpList Tryz.prog ops Q rest (a.put o.dst undef) w') : wpList Tryz.prog ops Q (o :: rest) a w := by
  obtain ⟨D, h1, h2, h3⟩ := hown
  refine wpList_mapUpdate_own w hg m x v _ hop 3 4 key_int Tryz.underlying101 _ b n D hm h1 (by unfold maxLen; omega) _ _ _ hx hv (keyOf_i64 hk) _ _ (plainElem_bool Tryz.underlying4 c) ?_
  intro w' h4 h5
  exact hK w' ⟨_, h4, h2.put _ _, MapVB.put h2 h3 k c⟩ h5
/-- 'delete(m, k)'. -/
theorem wpList_delVB (hg : o.guard = none) (m x : Operand) (hop : o.op = Op.call { callee := Callee.builtin Builtin.delete, args := #[m, x], argTypes := #[101, 3] }) (b n : Nat) (f : Int → Bool) (hm : a.eval m = .map (some b)) (hown : MapVB w b n f) (k : Int) (hx : a.eval x = .int .i64 k) (hk : I64 k)
    (hK : ∀ w', MapVB w' b n (fun x => if x = k then false else f x) → w.grownBy w' (some b) → wpList Tryz.prog ops Q rest (a.put o.dst (.tuple #[])) w') : wpList Tryz.prog ops Q (o :: rest) a w := by
  obtain ⟨D, h1, h2, h3⟩ := hown
  refine wpList_delete_own w hg m x _ _ hop 4 key_int Tryz.underlying101 _ b n D hm h1 _ _ hx (keyOf_i64 hk) ?_
  intro w' h4 h5
  exact hK w' ⟨_, h4, by obtain ⟨es, rfl⟩ := h2; exact ⟨_, rfl⟩, MapVB.del h3 k⟩ h5.grown
end

/-- An entry that is laid, and then stored into, is a store. -/
theorem entry_own {P : Program} {t k e : TypeId} {R : Value → Option (DataW Unit × List MemPlace)} {w : World} {b n : Nat} {D : DataW Unit} (h : w.ownsMap P k R b n D) (K : Keyed P k) (ht : P.underlying t = some (.map k e)) {z : Value} (hz : ∀ u : World, (zeroValue e).run P u = .ok z u) (hn : n < maxLen) {key : Value} {kl : Lit} (hkey : keyOf P k key = some kl) :
    ∃ v0 st w1, (Instr.mapEntry t (.map (some b)) key).run P w = .ok (.tuple #[v0, st]) w1 ∧ (∀ c, c ≠ b → w1.heap[c]? = w.heap[c]?) ∧ w1.heap.size = w.heap.size ∧ ∀ val d ps, R val = some (d, ps) → ∃ w2, (Instr.entryStore t (.map (some b)) st val).run P w1 = .ok () w2 ∧ w2.ownsMap P k R b (n + 1) (D.put kl d) ∧ w.grownBy w2 (some b) := by
  have H := h
  obtain ⟨es, clock, hb, F, hs, hD⟩ := h
  obtain ⟨s1, s2, _⟩ := F.stamped
  have others : ∀ o c, c ≠ b → (setBlock w b o).heap[c]? = w.heap[c]? := fun o c hc => heap_setBlock_other hb _ hc
  rcases K.find w hkey es.toList F.keys with ⟨f1, f2⟩ | ⟨j, e0, f1, f2, f3⟩
  · refine ⟨z, goInt clock, setBlock w b (.map (es.push ⟨key, z, clock⟩) (clock + 1)), ?_, others _, by simp [setBlock], fun val d ps hv => ?_⟩
    · simp [Instr.mapEntry, run_underlying ht, MapKept.run_getObj_map hb, K.check w false hkey, f1, hz, MapKept.run_setObj_map _ hb, Result.andThen, setBlock]
    obtain ⟨w2, hrun, h1, h2⟩ := H.update K ht hn hkey hv
    have hup : (Instr.mapUpdate t (.map (some b)) key val).run P w = .ok () (setBlock w b (.map (es.push ⟨key, val, clock⟩) (clock + 1))) := by
      simp [Instr.mapUpdate, run_underlying ht, MapKept.run_getObj_map hb, K.check w false hkey, f1, MapKept.run_setObj_map _ hb, Result.andThen, setBlock]
    obtain rfl : setBlock w b (.map (es.push ⟨key, val, clock⟩) (clock + 1)) = w2 := by simpa using hup.symm.trans hrun
    refine ⟨_, ?_, h1, h2⟩
    have hw1 : (setBlock w b (.map (es.push ⟨key, z, clock⟩) (clock + 1))).heap[b]? = some (.map (es.push ⟨key, z, clock⟩) (clock + 1)) := heap_setBlock_same hb _
    have hidx : (es.push ⟨key, z, clock⟩).findIdx? (fun e => ((e.born : Nat) : Int) == ((clock : Nat) : Int)) = some es.size := by
      rw [findIdx_arr]
      refine findIdx_born (l := (es.push ⟨key, z, clock⟩).toList) (j := es.size) (e0 := ⟨key, z, clock⟩) ?_ (by simp)
      rw [Array.toList_push, List.map_append]
      refine List.nodup_append.2 ⟨s2, by simp, fun p hp q hq => ?_⟩
      obtain ⟨x, hx, rfl⟩ := List.mem_map.1 hp
      have hq : q = clock := by simpa using hq
      have := s1 x hx
      omega
    have hmod : (es.push ⟨key, z, clock⟩).modify es.size (fun e => { e with val := val }) = es.push ⟨key, val, clock⟩ := by
      apply Array.ext'
      simp only [Array.toList_modify, Array.toList_push]
      exact modify_last _ _ es.toList
    simp [Instr.entryStore, MapKept.run_getObj_map hw1, asInt, asIntOf, goInt, hidx, hmod, MapKept.run_setObj_map _ hw1, Result.andThen]
    unfold setBlock
    simp
  · have hj : es[j]? = some e0 := by simpa using f2
    have hsame : es.modify j (fun e => { e with key := key }) = es := by
      apply Array.ext'
      rw [Array.toList_modify, modify_eq_set _ _ _ _ f2, show ({ e0 with key := key } : MapEntry) = e0 by rw [← f3]]
      exact set_self _ _ _ f2
    refine ⟨e0.val, goInt e0.born, setBlock w b (.map es clock), ?_, others _, by simp [setBlock], fun val d ps hv => ?_⟩
    · simp [Instr.mapEntry, run_underlying ht, MapKept.run_getObj_map hb, K.check w false hkey, f1, hj, f3, K.stays w hkey, hsame, MapKept.run_setObj_map _ hb, Result.andThen, setBlock]
    obtain ⟨w2, hrun, h1, h2⟩ := H.update K ht hn hkey hv
    have hup : (Instr.mapUpdate t (.map (some b)) key val).run P w = .ok () (setBlock w b (.map (es.modify j fun e => { e with key := key, val := val }) clock)) := by
      simp [Instr.mapUpdate, run_underlying ht, MapKept.run_getObj_map hb, K.check w false hkey, f1, hj, f3, K.stays w hkey, MapKept.run_setObj_map _ hb, Result.andThen, setBlock]
    obtain rfl : setBlock w b (.map (es.modify j fun e => { e with key := key, val := val }) clock) = w2 := by simpa using hup.symm.trans hrun
    refine ⟨_, ?_, h1, h2⟩
    have hw1 : (setBlock w b (.map es clock)).heap[b]? = some (.map es clock) := heap_setBlock_same hb _
    have hidx : es.findIdx? (fun e => ((e.born : Nat) : Int) == ((e0.born : Nat) : Int)) = some j := by
      rw [findIdx_arr]
      exact findIdx_born s2 f2
    have hmod : es.modify j (fun e => { e with val := val }) = es.modify j (fun e => { e with key := key, val := val }) := by
      apply Array.ext'
      simp only [Array.toList_modify, modify_eq_set _ _ _ _ f2, ← f3]
    simp [Instr.entryStore, MapKept.run_getObj_map hw1, asInt, asIntOf, goInt, hidx, hmod, MapKept.run_setObj_map _ hw1, Result.andThen]
    unfold setBlock
    simp

/-- An entry is laid: what a store into it will bring. -/
def Laid (t : TypeId) (w w1 : World) (b n : Nat) (f : Int → Bool) (k : Int) (st : Value) : Prop := (∀ c, c ≠ b → w1.heap[c]? = w.heap[c]?) ∧ w1.heap.size = w.heap.size ∧ ∀ c : Bool, ∃ w2, (Instr.entryStore t (.map (some b)) st (.bool c)).run Tryz.prog w1 = .ok () w2 ∧ MapVB w2 b (n + 1) (fun x => if x = k then c else f x) ∧ w.grownBy w2 (some b)
section
variable {w : World} {ops : Array Oper} {rest : List Oper} {o : Oper} {a : Act} {Q : Exit → Act → World → Prop}
theorem wpList_entryVB (hg : o.guard = none) (m x : Operand) (hop : o.op = Op.mapEntry 101 m x) (b n : Nat) (f : Int → Bool) (hm : a.eval m = .map (some b)) (hown : MapVB w b n f) (hn : n < 1000000000000000) (k : Int) (hx : a.eval x = .int .i64 k) (hk : I64 k)
    (hK : ∀ w1 v0 st, Hid (Laid 101 w w1 b n f k st) → wpList Tryz.prog ops Q rest (a.put o.dst (.tuple #[v0, st])) w1) : wpList Tryz.prog ops Q (o :: rest) a w := by
  obtain ⟨D, h1, h2, h3⟩ := hown
  obtain ⟨v0, st, w1, hrun, ho, hs, hst⟩ := entry_own h1 key_int Tryz.underlying101 (z := .bool false) zeroB (by unfold maxLen; omega) (keyOf_i64 hk)
  refine wpList_plain hg fun K' hK' => ?_
  unfold Oper.wp
  simp [execOp, hop, hm, hx, hrun, Result.andThen]
  refine hK' _ _ (hK w1 v0 st (Lib.hid ⟨ho, hs, fun c => ?_⟩))
  obtain ⟨w2, g1, g2, g3⟩ := hst (.bool c) _ _ (plainElem_bool Tryz.underlying4 c)
  exact ⟨w2, g1, ⟨_, g2, h2.put _ _, MapVB.put h2 h3 k c⟩, g3⟩
theorem wpList_storeVB (hg : o.guard = none) (m s v : Operand) (hop : o.op = Op.entryStore 101 m s v) {w0 : World} (b n : Nat) (f : Int → Bool) (k : Int) (st : Value) (c : Bool) (hl : Hid (Laid 101 w0 w b n f k st)) (hm : a.eval m = .map (some b)) (hs : a.eval s = st) (hv : a.eval v = .bool c)
    (hK : ∀ w', MapVB w' b (n + 1) (fun x => if x = k then c else f x) → w0.grownBy w' (some b) → wpList Tryz.prog ops Q rest (a.put o.dst undef) w') : wpList Tryz.prog ops Q (o :: rest) a w := by
  obtain ⟨w2, g1, g2, g3⟩ := hl.out.2.2 c
  refine wpList_plain hg fun K' hK' => ?_
  unfold Oper.wp
  simp [execOp, hop, hm, hs, hv, g1, Result.andThen]
  exact hK' _ _ (hK w2 g2 g3)
end
end Go.Proofs.YtigkhmppnnljiaaGreatDoor

namespace Go.Proofs.YtigkhmppnnljiaaGreatDoor
open Go Go.RowKit Go.Deep Go.ChangeShapes Go.WideShapes Go.ChangeAt

mutual
/-- All lists of a term are short. -/
def Trm.short : Trm → Prop
  | .mk _ _ v t => v.length * 8 ≤ 140737488351232 ∧ Trm.shortL t
def Trm.shortL : List Trm → Prop
  | [] => True
  | x :: l => Trm.short x ∧ Trm.shortL l
end
theorem Trm.shortL_iff : ∀ {l : List Trm}, Trm.shortL l ↔ ∀ x ∈ l, Trm.short x
  | [] => by simp [Trm.shortL]
  | y :: l => by rw [Trm.shortL, Trm.shortL_iff (l := l)]; simp
def Cod.short (c : Cod) : Prop := c.v.length * 8 ≤ 140737488351232 ∧ c.body.short
def Mdl.short (m : Mdl) : Prop := (∀ c ∈ m.codes, c.short) ∧ m.body.short
theorem SlC.both {α : Type} {w : World} {B size : Nat} {R : α → List Value → Prop} {Q : α → Prop} {l : List α} {v : Value} (h : SlC w B size (fun x cs => R x cs ∧ Q x) l v) : SlC w B size R l v ∧ ∀ x ∈ l, Q x := by
  obtain ⟨o, len, cap, rfl, h1, h2, h3, h4⟩ := h
  cases o with
  | none => exact ⟨⟨none, len, cap, rfl, h1, h2, h3, h4⟩, fun x hx => by rw [h4.1] at hx; cases hx⟩
  | some a =>
    refine ⟨⟨some a, len, cap, rfl, h1, h2, h3, h4.1, fun i x hx => ?_⟩, fun x hx => ?_⟩
    · obtain ⟨cs, g1, g2, g3⟩ := h4.2 i x hx
      exact ⟨cs, g1, g2, g3.1⟩
    · obtain ⟨i, hi⟩ := List.getElem?_of_mem hx
      obtain ⟨cs, g1, g2, g3⟩ := h4.2 i x hi
      exact g3.2

section
variable {H : Type} {enc : TypeId × Value → H}
/-- A slice that opens is short. -/
theorem len_of_trod {w : World} {ts te : TypeId} {bs : Nat} (hu : Tryz.prog.underlying ts = some (.slice te)) (hbs : Tryz.prog.bytesOf te = bs) {fuel : Nat} {o : Option Addr} {len cap : Nat} {x4 : DataW H × List MemPlace} (g4 : DataW.trod enc Tryz.prog w 0 (fun _ => true) true fuel ts [.slice o len cap] = some x4) (w4 : ∀ n ∈ x4.1.weights Tryz.prog ts, n ≤ reachBytes) : len * bs ≤ 140737488351232 := by
  rcases DataW.trod_slice hu g4 with ⟨e4, _⟩ | ⟨a, len2, cap2, elems, rest, n', rfl, e4, hx4, _, hle, _, hel2, hget4, hsp, _⟩
  · simp only [List.cons.injEq, Value.slice.injEq, and_true] at e4
    obtain ⟨_, rfl, _⟩ := e4
    omega
  · simp only [List.cons.injEq, Value.slice.injEq, and_true] at e4
    obtain ⟨_, rfl, rfl⟩ := e4
    subst hx4
    have := w4 ((elems.length + rest.length) * bs) (by simp [DataW.weights, hu, hbs])
    have h9 : (elems.length + rest.length) * bs ≤ 140737488351232 := this
    have h10 : len * bs ≤ (elems.length + rest.length) * bs := Nat.mul_le_mul_right _ (by omega)
    omega

set_option maxRecDepth 100000 in
theorem trmN_of_trod {w : World} : ∀ (fuel : Nat) (cs : List Value) (y : DataW H × List MemPlace), DataW.trod enc Tryz.prog w 0 (fun _ => true) true fuel 41 cs = some y → (∀ n ∈ y.1.weights Tryz.prog 41, n ≤ reachBytes) → ∃ x, TrmR w w.heap.size x cs ∧ x.short := by
  intro fuel
  induction fuel using Nat.strongRecOn with
  | _ fuel ih =>
    intro cs y h hw
    obtain ⟨xs, n, hn, rfl, hlen, hxs, hget⟩ := DataW.trod_struct Tryz.underlying41 h
    rw [show Tryz.prog.cellsOf 41 = 4 by kernel_rfl] at hlen
    match cs, hlen with
    | [c0, c1, c2, c3], _ =>
      have g0 : DataW.trod enc Tryz.prog w 0 (fun _ => true) true n 3 (([c0, c1, c2, c3].drop 0).take (Tryz.prog.cellsOf 3)) = xs[0]? := hget 0 _ rfl
      have g1 : DataW.trod enc Tryz.prog w 0 (fun _ => true) true n 3 (([c0, c1, c2, c3].drop 1).take (Tryz.prog.cellsOf 3)) = xs[1]? := hget 1 _ rfl
      have g2 : DataW.trod enc Tryz.prog w 0 (fun _ => true) true n 32 (([c0, c1, c2, c3].drop 2).take (Tryz.prog.cellsOf 32)) = xs[2]? := hget 2 _ rfl
      have g3 : DataW.trod enc Tryz.prog w 0 (fun _ => true) true n 39 (([c0, c1, c2, c3].drop 3).take (Tryz.prog.cellsOf 39)) = xs[3]? := hget 3 _ rfl
      rw [cells_int] at g0 g1
      rw [show Tryz.prog.cellsOf 32 = 1 by kernel_rfl] at g2
      rw [show Tryz.prog.cellsOf 39 = 1 by kernel_rfl] at g3
      have hx4 : xs.length = 4 := hxs
      match xs, hx4 with
      | [x0, x1, x2, x3], _ =>
        obtain ⟨k, e0, _, w0⟩ := DataW.trod_int Tryz.underlying3 (show _ = some x0 from g0)
        obtain ⟨m, e1, _, w1⟩ := DataW.trod_int Tryz.underlying3 (show _ = some x1 from g1)
        have f0 : c0 = .int .i64 k := by simpa using e0
        have f1 : c1 = .int .i64 m := by simpa using e1
        subst f0 f1
        have we : ∀ (i : Nat) (t : TypeId) (z : DataW H), [3, 3, 32, 39][i]? = some t → [x0.1, x1.1, x2.1, x3.1][i]? = some z → ∀ n ∈ z.weights Tryz.prog t, n ≤ reachBytes := by
          intro i t z ht hz q hq
          refine hw q ?_
          show q ∈ DataW.weights Tryz.prog 41 (.agg _)
          simp only [DataW.weights, Tryz.underlying41]
          exact weightsEach_mem i ht hz q hq
        obtain ⟨l, hl⟩ := ints_of_trod n c2 x2 (show _ = some x2 from g2) (we 2 32 _ rfl rfl)
        obtain ⟨o2, n2, k2, rfl⟩ := hl.form
        have hs : n2 * 8 ≤ 140737488351232 := len_of_trod Tryz.underlying32 (by kernel_rfl) (show _ = some x2 from g2) (we 2 32 _ rfl rfl)
        obtain ⟨l2, hl2⟩ := slC_of_trodF (te := 41) (size := 4) (bs := 64) Tryz.underlying39 (by kernel_rfl) (by kernel_rfl) (by omega) (by omega) (R := fun x cs => TrmR w w.heap.size x cs ∧ x.short) n (fun n' cs' y hlt hy hw => ih n' (by omega) cs' y hy hw) c3 x3 (show _ = some x3 from g3) (we 3 39 _ rfl rfl)
        obtain ⟨hl3, hl4⟩ := hl2.both
        exact ⟨.mk k m l l2, trmR_iff.2 ⟨_, c3, rfl, bd_i64 w0, bd_i64 w1, hl, hl3⟩, by rw [← hl.lens.1]; exact hs, Trm.shortL_iff.2 hl4⟩

set_option maxRecDepth 100000 in
theorem codN_of_trod {w : World} (n' : Nat) (cs : List Value) (y : DataW H × List MemPlace) (h : DataW.trod enc Tryz.prog w 0 (fun _ => true) true n' 50 cs = some y) (hw : ∀ n ∈ y.1.weights Tryz.prog 50, n ≤ reachBytes) : ∃ x, CodR w w.heap.size x cs ∧ x.short := by
  obtain ⟨xs, n, rfl, rfl, hlen, hxs, hget⟩ := DataW.trod_struct Tryz.underlying50 h
  rw [show Tryz.prog.cellsOf 50 = 6 by kernel_rfl] at hlen
  match cs, hlen with
  | [c0, c1, c2, c3, c4, c5], _ =>
    have g0 : DataW.trod enc Tryz.prog w 0 (fun _ => true) true n 32 (([c0, c1, c2, c3, c4, c5].drop 0).take (Tryz.prog.cellsOf 32)) = xs[0]? := hget 0 _ rfl
    have g1 : DataW.trod enc Tryz.prog w 0 (fun _ => true) true n 4 (([c0, c1, c2, c3, c4, c5].drop 1).take (Tryz.prog.cellsOf 4)) = xs[1]? := hget 1 _ rfl
    have g2 : DataW.trod enc Tryz.prog w 0 (fun _ => true) true n 41 (([c0, c1, c2, c3, c4, c5].drop 2).take (Tryz.prog.cellsOf 41)) = xs[2]? := hget 2 _ rfl
    rw [show Tryz.prog.cellsOf 32 = 1 by kernel_rfl] at g0
    rw [show Tryz.prog.cellsOf 4 = 1 by kernel_rfl] at g1
    rw [show Tryz.prog.cellsOf 41 = 4 by kernel_rfl] at g2
    have hx3 : xs.length = 3 := hxs
    match xs, hx3 with
    | [x0, x1, x2], _ =>
      obtain ⟨b, e1, _⟩ := DataW.trod_bool Tryz.underlying4 (show _ = some x1 from g1)
      have f1 : c1 = .bool b := by simpa using e1
      subst f1
      have we : ∀ (i : Nat) (t : TypeId) (z : DataW H), [32, 4, 41][i]? = some t → [x0.1, x1.1, x2.1][i]? = some z → ∀ n ∈ z.weights Tryz.prog t, n ≤ reachBytes := by
        intro i t z ht hz q hq
        refine hw q ?_
        show q ∈ DataW.weights Tryz.prog 50 (.agg _)
        simp only [DataW.weights, Tryz.underlying50]
        exact weightsEach_mem i ht hz q hq
      obtain ⟨l, hl⟩ := ints_of_trod n c0 x0 (show _ = some x0 from g0) (we 0 32 _ rfl rfl)
      obtain ⟨o2, n2, k2, rfl⟩ := hl.form
      have hs : n2 * 8 ≤ 140737488351232 := len_of_trod Tryz.underlying32 (by kernel_rfl) (show _ = some x0 from g0) (we 0 32 _ rfl rfl)
      obtain ⟨t, ht, hts⟩ := trmN_of_trod n [c2, c3, c4, c5] x2 (show _ = some x2 from g2) (we 2 41 _ rfl rfl)
      exact ⟨⟨l, b, t⟩, ⟨_, c2, c3, c4, c5, rfl, hl, ht⟩, by show l.length * 8 ≤ _; rw [← hl.lens.1]; exact hs, hts⟩

set_option maxRecDepth 100000 in
/-- An argument that is a module. -/
theorem open_moduleN {W : World} {r : Reach} {b0 : Nat} {v : Value} {d : DataW H} {ps : List MemPlace} (hval : Value.okWide Tryz.prog W r b0 43 v) (hd : DataW.Trod enc Tryz.prog W 0 (fun _ => true) true 43 v d ps) (hw : ∀ n ∈ d.weights Tryz.prog 43, n ≤ reachBytes) : ∃ m, MdlR W W.heap.size m v ∧ m.short := by
  unfold Value.okWide at hval
  rw [Tryz.underlying43] at hval
  obtain ⟨⟨cs⟩, rfl, _⟩ := hval
  obtain ⟨fuel, hf⟩ := hd
  have hf' : DataW.trod enc Tryz.prog W 0 (fun _ => true) true fuel 43 cs = some (d, ps) := by simpa [Value.cells] using hf
  obtain ⟨xs, n, rfl, hd2, hlen, hxs, hget⟩ := DataW.trod_struct Tryz.underlying43 hf'
  obtain rfl : d = _ := congrArg Prod.fst hd2
  rw [show Tryz.prog.cellsOf 43 = 6 by kernel_rfl] at hlen
  match cs, hlen with
  | [c0, c1, c2, c3, c4, c5], _ =>
    have g0 : DataW.trod enc Tryz.prog W 0 (fun _ => true) true n 22 (([c0, c1, c2, c3, c4, c5].drop 0).take (Tryz.prog.cellsOf 22)) = xs[0]? := hget 0 _ rfl
    have g1 : DataW.trod enc Tryz.prog W 0 (fun _ => true) true n 38 (([c0, c1, c2, c3, c4, c5].drop 1).take (Tryz.prog.cellsOf 38)) = xs[1]? := hget 1 _ rfl
    have g2 : DataW.trod enc Tryz.prog W 0 (fun _ => true) true n 41 (([c0, c1, c2, c3, c4, c5].drop 2).take (Tryz.prog.cellsOf 41)) = xs[2]? := hget 2 _ rfl
    rw [cells_data] at g0
    rw [show Tryz.prog.cellsOf 38 = 1 by kernel_rfl] at g1
    rw [show Tryz.prog.cellsOf 41 = 4 by kernel_rfl] at g2
    have hx3 : xs.length = 3 := hxs
    match xs, hx3 with
    | [x0, x1, x2], _ =>
      have we : ∀ (i : Nat) (t : TypeId) (z : DataW H), [22, 38, 41][i]? = some t → [x0.1, x1.1, x2.1][i]? = some z → ∀ n ∈ z.weights Tryz.prog t, n ≤ reachBytes := by
        intro i t z ht hz q hq
        refine hw q ?_
        show q ∈ DataW.weights Tryz.prog 43 (.agg _)
        simp only [DataW.weights, Tryz.underlying43]
        exact weightsEach_mem i ht hz q hq
      obtain ⟨l, hl⟩ := repS_of_trod n c0 x0 (show _ = some x0 from g0) (we 0 22 _ rfl rfl)
      obtain ⟨l2, hl2⟩ := slC_of_trod (te := 50) (size := 6) (bs := 96) Tryz.underlying38 (by kernel_rfl) (by kernel_rfl) (by omega) (by omega) (R := fun x cs => CodR W W.heap.size x cs ∧ x.short) (fun n' cs' y hy hw => codN_of_trod n' cs' y hy hw) n c1 x1 (show _ = some x1 from g1) (we 1 38 _ rfl rfl)
      obtain ⟨t, ht, hts⟩ := trmN_of_trod n [c2, c3, c4, c5] x2 (show _ = some x2 from g2) (we 2 41 _ rfl rfl)
      obtain ⟨hl3, hl4⟩ := hl2.both
      exact ⟨⟨l, l2, t⟩, ⟨c0, c1, c2, c3, c4, c5, rfl, hl, hl3, ht⟩, hl4, hts⟩
end
end Go.Proofs.YtigkhmppnnljiaaGreatDoor

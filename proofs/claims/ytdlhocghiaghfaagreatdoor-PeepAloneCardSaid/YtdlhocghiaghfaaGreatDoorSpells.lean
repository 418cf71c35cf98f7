/-
  The cells of a slice, as a list to be appended.
-/
import Derived.Test.YtdlhocghiaghfaaGreatDoorInts
import Derived.Test.YtdlhocghiaghfaaGreatDoorSols
import Derived.ArgAppend
namespace Go.Proofs.YtdlhocghiaghfaaGreatDoor
open Go.RowKit

theorem SlC.newsTo {α : Type} {w : World} {B size len cap : Nat} {R : α → List Value → Prop} {l : List α} {a : Addr} (h : SlC w B size R l (.slice (some a) len cap)) : ∀ k, k ≤ l.length → ∃ news, CellsG size R (l.take k) news ∧ ∀ j u, news[j]? = some u → w.cell? ⟨a.block, a.off + j, none⟩ = some u
  | 0, _ => ⟨[], rfl, fun j u hj => by simp at hj⟩
  | k + 1, hk => by
    obtain ⟨news, hc, hr⟩ := h.newsTo k (by omega)
    have hh := h
    obtain ⟨o', l', c', he, _, _, _, h4⟩ := hh
    simp only [Value.slice.injEq] at he
    obtain ⟨rfl, rfl, rfl⟩ := he
    obtain ⟨cs, h1, h2, h3⟩ := h4.2 k l[k] (List.getElem?_eq_getElem (by omega))
    have hlen : news.length = k * size := by rw [hc.length, List.length_take]; congr 1; omega
    refine ⟨news ++ cs, ?_, fun j u hj => ?_⟩
    · rw [List.take_add_one, List.getElem?_eq_getElem (by omega)]
      exact CellsG.snoc h1 h3 hc
    · by_cases hjl : j < news.length
      · rw [List.getElem?_append_left hjl] at hj
        exact hr j u hj
      · rw [List.getElem?_append_right (by omega)] at hj
        have := h2 _ u hj
        rw [hlen] at this hjl
        rw [show a.off + k * size + (j - k * size) = a.off + j by omega] at this
        exact this
theorem SlC.news {α : Type} {w : World} {B size len cap : Nat} {R : α → List Value → Prop} {l : List α} {a : Addr} (h : SlC w B size R l (.slice (some a) len cap)) (hl : l ≠ []) : ∃ news, news.length = len * size ∧ CellsG size R l news ∧ ∀ j u, news[j]? = some u → w.cell? (a.add j) = some u := by
  obtain ⟨news, hc, hr⟩ := h.newsTo l.length (Nat.le_refl _)
  rw [List.take_length] at hc
  have hsp : a.spot = none := by
    obtain ⟨o', l', c', he, _, _, _, h4⟩ := h
    simp only [Value.slice.injEq] at he
    obtain ⟨rfl, rfl, rfl⟩ := he
    exact (h4.1 hl).1
  refine ⟨news, by rw [hc.length, h.lens.1], hc, fun j u hj => ?_⟩
  rw [add_none hsp]
  exact hr j u hj
/-- One element replaced. -/
theorem CellsG.set {α : Type} {size : Nat} {R : α → List Value → Prop} {x : α} {cs : List Value} (hs : cs.length = size) (hx : R x cs) : ∀ {l : List α} {xs : List Value} {i : Nat}, CellsG size R l xs → i < l.length → CellsG size R (l.set i x) (xs.take (i * size) ++ cs ++ xs.drop ((i + 1) * size))
  | [], _, _, _, hi => by simp at hi
  | y :: l, xs, 0, ⟨cs', r, he, hs', _, hr⟩, _ => by
    refine ⟨cs, r, ?_, hs, hx, hr⟩
    rw [he, Nat.zero_mul, List.take_zero, List.nil_append, Nat.zero_add, Nat.one_mul, List.drop_append_of_le_length (by omega), List.drop_of_length_le (by omega), List.nil_append]
  | y :: l, xs, i + 1, ⟨cs', r, he, hs', hy, hr⟩, hi => by
    refine ⟨cs', r.take (i * size) ++ cs ++ r.drop ((i + 1) * size), ?_, hs', hy, hr.set hs hx (by simpa using hi)⟩
    have e1 : (i + 1) * size = cs'.length + i * size := by rw [hs', Nat.add_mul]; omega
    have e2 : (i + 1 + 1) * size = cs'.length + (i + 1) * size := by rw [hs', Nat.add_mul (i + 1) 1]; omega
    rw [he, e2, e1, List.take_length_add_append, List.drop_length_add_append]
    simp [List.append_assoc, hs']
end Go.Proofs.YtdlhocghiaghfaaGreatDoor

namespace Go.Proofs.YtdlhocghiaghfaaGreatDoor
open Go.RowKit

section
variable {P : Program} {ops : Array Oper} {Q : Exit → Act → World → Prop} {o : Oper} {a : Act} {w w' : World}
theorem wpList_field {s t f : Nat} {x v : Value} (hg : o.guard = none) (ho : o.op = .fieldAddr t (.tmp s) f) (hx : a.tmps.getD s undef = x) (hm : (Instr.fieldAt t x f).run P w = .ok v w) (hQ : Q .normal (a.put o.dst v) w) : wpList P ops Q [o] a w := by
  refine wpList_value (v := v) (w' := w) hg ?_ hQ
  unfold execOp
  rw [ho]
  show (do let r ← Instr.fieldAt t (a.tmps.getD s undef) f; pure (Next.value r) : Sem Next).run P w = _
  rw [hx]
  simp only [Sem.run_bind, Sem.run_pure, hm, Result.andThen_ok]
theorem wpList_load {s t : Nat} {x v : Value} (hg : o.guard = none) (ho : o.op = .load t (.tmp s)) (hx : a.tmps.getD s undef = x) (hm : (Instr.loadAt t x).run P w = .ok v w) (hQ : Q .normal (a.put o.dst v) w) : wpList P ops Q [o] a w := by
  refine wpList_value (v := v) (w' := w) hg ?_ hQ
  unfold execOp
  rw [ho]
  show (do let r ← Instr.loadAt t (a.tmps.getD s undef); pure (Next.value r) : Sem Next).run P w = _
  rw [hx]
  simp only [Sem.run_bind, Sem.run_pure, hm, Result.andThen_ok]
theorem wpList_bs0 {t : Nat} {v : Value} (hg : o.guard = none) (ho : o.op = .buildSlice t 0 #[]) (hm : (Instr.buildSlice t 0 #[]).run P w = .ok v w') (hQ : Q .normal (a.put o.dst v) w') : wpList P ops Q [o] a w := by
  refine wpList_value (v := v) (w' := w') hg ?_ hQ
  unfold execOp
  rw [ho]
  have hmap : (#[] : Array (Nat × Operand)).map (fun (i, x) => (i, a.eval x)) = #[] := by simp
  show (do let r ← Instr.buildSlice t 0 ((#[] : Array (Nat × Operand)).map (fun (i, x) => (i, a.eval x))); pure (Next.value r) : Sem Next).run P w = _
  rw [hmap]
  simp only [Sem.run_bind, Sem.run_pure, hm, Result.andThen_ok]
theorem wpList_alloc {t : Nat} {v : Value} (hg : o.guard = none) (ho : o.op = .alloc t) (hm : (Instr.alloc t true (.tuple #[])).run P w = .ok v w') (hQ : Q .normal (a.put o.dst v) w') : wpList P ops Q [o] a w := by
  refine wpList_value (v := v) (w' := w') hg ?_ hQ
  unfold execOp
  rw [ho]
  show (do let r ← Instr.alloc t true (.tuple #[]); pure (Next.value r) : Sem Next).run P w = _
  simp only [Sem.run_bind, Sem.run_pure, hm, Result.andThen_ok]
theorem wpList_build2 {t s1 s2 i1 i2 : Nat} {x1 x2 v : Value} (hg : o.guard = none) (ho : o.op = .build t #[(i1, .tmp s1), (i2, .tmp s2)]) (h1 : a.tmps.getD s1 undef = x1) (h2 : a.tmps.getD s2 undef = x2) (hm : (Instr.build t #[(i1, x1), (i2, x2)]).run P w = .ok v w) (hQ : Q .normal (a.put o.dst v) w) : wpList P ops Q [o] a w := by
  refine wpList_value (v := v) (w' := w) hg ?_ hQ
  unfold execOp
  rw [ho]
  have hmap : (#[(i1, Operand.tmp s1), (i2, Operand.tmp s2)] : Array (Nat × Operand)).map (fun (i, x) => (i, a.eval x)) = #[(i1, x1), (i2, x2)] := by
    simp only [List.map_toArray, List.map_cons, List.map_nil]
    rw [← h1, ← h2]; rfl
  show (do let r ← Instr.build t ((#[(i1, Operand.tmp s1), (i2, Operand.tmp s2)] : Array (Nat × Operand)).map (fun (i, x) => (i, a.eval x))); pure (Next.value r) : Sem Next).run P w = _
  rw [hmap]
  simp only [Sem.run_bind, Sem.run_pure, hm, Result.andThen_ok]
theorem wpList_build4 {t s1 s2 s3 s4 i1 i2 i3 i4 : Nat} {x1 x2 x3 x4 v : Value} (hg : o.guard = none) (ho : o.op = .build t #[(i1, .tmp s1), (i2, .tmp s2), (i3, .tmp s3), (i4, .tmp s4)]) (h1 : a.tmps.getD s1 undef = x1) (h2 : a.tmps.getD s2 undef = x2) (h3 : a.tmps.getD s3 undef = x3) (h4 : a.tmps.getD s4 undef = x4) (hm : (Instr.build t #[(i1, x1), (i2, x2), (i3, x3), (i4, x4)]).run P w = .ok v w) (hQ : Q .normal (a.put o.dst v) w) : wpList P ops Q [o] a w := by
  refine wpList_value (v := v) (w' := w) hg ?_ hQ
  unfold execOp
  rw [ho]
  have hmap : (#[(i1, Operand.tmp s1), (i2, Operand.tmp s2), (i3, Operand.tmp s3), (i4, Operand.tmp s4)] : Array (Nat × Operand)).map (fun (i, x) => (i, a.eval x)) = #[(i1, x1), (i2, x2), (i3, x3), (i4, x4)] := by
    simp only [List.map_toArray, List.map_cons, List.map_nil]
    rw [← h1, ← h2, ← h3, ← h4]; rfl
  show (do let r ← Instr.build t ((#[(i1, Operand.tmp s1), (i2, Operand.tmp s2), (i3, Operand.tmp s3), (i4, Operand.tmp s4)] : Array (Nat × Operand)).map (fun (i, x) => (i, a.eval x))); pure (Next.value r) : Sem Next).run P w = _
  rw [hmap]
  simp only [Sem.run_bind, Sem.run_pure, hm, Result.andThen_ok]

/-! ### the frame behind the region -/
theorem fold_puts (f : Nat → Value) : ∀ (ds : List Nat) (b : Act), (ds.foldl (fun b d => b.put (some d) (f d)) b).tmps.size = b.tmps.size ∧ (ds.foldl (fun b d => b.put (some d) (f d)) b).defers = b.defers ∧
    ∀ t, t < b.tmps.size → (ds.foldl (fun b d => b.put (some d) (f d)) b).tmps.getD t undef = if t ∈ ds then f t else b.tmps.getD t undef
  | [], b => ⟨rfl, rfl, fun t _ => by simp⟩
  | d :: ds, b => by
    obtain ⟨h1, h2, h3⟩ := fold_puts f ds (b.put (some d) (f d))
    have hs : (b.put (some d) (f d)).tmps.size = b.tmps.size := by simp [Act.put]
    refine ⟨h1.trans hs, h2.trans rfl, fun t ht => ?_⟩
    rw [List.foldl_cons, h3 t (by rw [hs]; exact ht)]
    by_cases hm : t ∈ ds
    · simp [hm]
    · rw [if_neg hm]
      by_cases hd : d = t
      · subst hd
        rw [put_getD ht, if_pos rfl]
        simp
      · have : ¬ t ∈ d :: ds := by simp [hm]; exact fun h => hd h.symm
        rw [if_neg this]
        show ((b.tmps.setIfInBounds d (f d)).getD t undef) = _
        simp [Array.getElem?_setIfInBounds_ne hd]
def dstB (ops : Array Oper) (n : Nat) (ds : List Nat) : Bool := (List.range n).all fun i => match ops[i]? with | some o => (match o.dst with | some d => ds.contains d | none => true) | none => true
theorem Rest.spell {n : Nat} {a0 a : Act} (h : Rest ops n a0 a) (hsz : a.tmps.size = a0.tmps.size) (hd : a.defers = a0.defers) (ds : List Nat) (hB : dstB ops n ds = true) : a = ds.foldl (fun b d => b.put (some d) (a.tmps.getD d undef)) a0 := by
  obtain ⟨h1, h2, h3⟩ := fold_puts (fun d => a.tmps.getD d undef) ds a0
  obtain ⟨b, hb⟩ : ∃ b, ds.foldl (fun b d => b.put (some d) (a.tmps.getD d undef)) a0 = b := ⟨_, rfl⟩
  rw [hb] at h1 h2 h3 ⊢
  have ht : a.tmps = b.tmps := by
    apply Array.ext
    · rw [hsz, h1]
    · intro i g1 g2
      have g3 := h3 i (by rw [← h1]; exact g2)
      have e1 : b.tmps.getD i undef = b.tmps[i] := by simp [g2]
      have e2 : a.tmps.getD i undef = a.tmps[i] := by simp [g1]
      rw [e1] at g3
      by_cases hm : i ∈ ds
      · rw [if_pos hm, e2] at g3; exact g3.symm
      · rw [if_neg hm] at g3
        rw [g3, ← e2]
        refine h i fun j oj hj hoj he => hm ?_
        have := List.all_eq_true.1 hB j (List.mem_range.2 hj)
        simp only [hoj, he] at this
        simpa using this
  obtain ⟨ta, da⟩ := a
  obtain ⟨tb, db⟩ := b
  simp only at ht hd h2
  rw [ht, hd, h2]
end

theorem cell_qd {W V : World} {a : Addr} {v : Value} (h : V = W.drew) (hc : W.cell? a = some v) : V.cell? a = some v := by rw [h]; exact hc
/-! ### rows of the call's own -/
/-- A slice over a block of the call's own, from its first cell on. -/
def RowB (H : Nat) (t : TypeId) (size n : Nat) (xs : List Value) (v : Value) (W : World) : Prop := ∃ g cap L, v = .slice (some ⟨g, 0, none⟩) n cap ∧ H ≤ g ∧ BoxL W g t L ∧ L.take (n * size) = xs ∧ n ≤ cap ∧ cap ≤ maxLen ∧ L.length = cap * size
theorem RowB.of_own {W : World} {H n size : Nat} {t : TypeId} {v : Value} {xs : List Value} (h : W.ownsRow H t size v n xs) (hn : 0 < n) : RowB H t size n xs v W := by
  rcases h.2 with ⟨_, h0⟩ | ⟨g, cap, cur, hv, hg, hb, h1, h2, h3, h4⟩
  · omega
  · exact ⟨g, cap, cur.toList, hv, hg, by rw [BoxL]; simpa using hb, h4, h1, h2, by simpa using h3⟩
theorem RowB.own {W : World} {H n size : Nat} {t : TypeId} {v : Value} {xs : List Value} (h : RowB H t size n xs v W) : W.ownsRow H t size v n xs := by
  obtain ⟨g, cap, L, hv, hg, hb, h1, h2, h3, h4⟩ := h
  refine ⟨?_, .inr ⟨g, cap, L.toArray, hv, hg, hb, h2, h3, by simpa using h4, by simpa using h1⟩⟩
  rw [← h1, List.length_take, h4]
  exact Nat.min_eq_left (Nat.mul_le_mul_right _ h2)
theorem RowB.keep {W W' : World} {H n size : Nat} {t : TypeId} {v : Value} {xs : List Value} (h : RowB H t size n xs v W) (hb : Below W.heap.size W W') : RowB H t size n xs v W' := by
  obtain ⟨g, cap, L, hv, hg, hx, h1⟩ := h
  exact ⟨g, cap, L, hv, hg, hx.keep hb, h1⟩
theorem BoxL.ne {W : World} {b c : Nat} {t u : TypeId} {xs ys : List Value} (h : BoxL W b t xs) (h' : BoxL W c u ys) (hne : t ≠ u) : b ≠ c := by
  rintro rfl
  have := (show W.heap[b]? = _ from h).symm.trans h'
  simp at this
  exact hne this.2
theorem BoxL.set5 {W : World} {b : Nat} {t : TypeId} {L : List Value} (h : BoxL W b t L) (i : Nat) (c0 c1 c2 c3 c4 : Value) :
    BoxL (((((W.setCell ⟨b, i, none⟩ c0).setCell ⟨b, i + 1, none⟩ c1).setCell ⟨b, i + 2, none⟩ c2).setCell ⟨b, i + 3, none⟩ c3).setCell ⟨b, i + 4, none⟩ c4) b t (((((L.set i c0).set (i + 1) c1).set (i + 2) c2).set (i + 3) c3).set (i + 4) c4) :=
  ((((h.set i c0).set (i + 1) c1).set (i + 2) c2).set (i + 3) c3).set (i + 4) c4
theorem BoxL.other5 {W : World} {b g : Nat} {t : TypeId} {L : List Value} (h : BoxL W b t L) (hne : b ≠ g) (i : Nat) (c0 c1 c2 c3 c4 : Value) :
    BoxL (((((W.setCell ⟨g, i, none⟩ c0).setCell ⟨g, i + 1, none⟩ c1).setCell ⟨g, i + 2, none⟩ c2).setCell ⟨g, i + 3, none⟩ c3).setCell ⟨g, i + 4, none⟩ c4) b t L :=
  ((((h.other ⟨g, i, none⟩ c0 hne).other ⟨g, i + 1, none⟩ c1 hne).other ⟨g, i + 2, none⟩ c2 hne).other ⟨g, i + 3, none⟩ c3 hne).other ⟨g, i + 4, none⟩ c4 hne
theorem Below.sets5 {H : Nat} {A W : World} {g : Nat} (h : Below H A W) (hg : H ≤ g) (i : Nat) (c0 c1 c2 c3 c4 : Value) :
    Below H A (((((W.setCell ⟨g, i, none⟩ c0).setCell ⟨g, i + 1, none⟩ c1).setCell ⟨g, i + 2, none⟩ c2).setCell ⟨g, i + 3, none⟩ c3).setCell ⟨g, i + 4, none⟩ c4) :=
  ((((h.setCell (p := ⟨g, i, none⟩) hg c0).setCell (p := ⟨g, i + 1, none⟩) hg c1).setCell (p := ⟨g, i + 2, none⟩) hg c2).setCell (p := ⟨g, i + 3, none⟩) hg c3).setCell (p := ⟨g, i + 4, none⟩) hg c4
theorem sets5_list {L : List Value} {i : Nat} (h : i + 5 ≤ L.length) (c0 c1 c2 c3 c4 : Value) : ((((L.set i c0).set (i + 1) c1).set (i + 2) c2).set (i + 3) c3).set (i + 4) c4 = L.take i ++ [c0, c1, c2, c3, c4] ++ L.drop (i + 5) := by
  apply List.ext_getElem?
  intro j
  rw [List.append_assoc, List.getElem?_append, List.length_take, Nat.min_eq_left (by omega)]
  by_cases h1 : j < i
  · rw [if_pos h1, List.getElem?_take, if_pos h1, List.getElem?_set_ne (by omega), List.getElem?_set_ne (by omega), List.getElem?_set_ne (by omega), List.getElem?_set_ne (by omega), List.getElem?_set_ne (by omega)]
  · rw [if_neg h1]
    obtain ⟨q, rfl⟩ : ∃ q, j = i + q := ⟨j - i, by omega⟩
    rw [show i + q - i = q by omega]
    match q with
    | 0 =>
      rw [List.getElem?_set_ne (by omega), List.getElem?_set_ne (by omega), List.getElem?_set_ne (by omega), List.getElem?_set_ne (by omega)]
      rw [Nat.add_zero, List.getElem?_set_self (by omega)]; rfl
    | 1 =>
      rw [List.getElem?_set_ne (by omega), List.getElem?_set_ne (by omega), List.getElem?_set_ne (by omega)]
      rw [List.getElem?_set_self (by simp; omega)]; rfl
    | 2 =>
      rw [List.getElem?_set_ne (by omega), List.getElem?_set_ne (by omega)]
      rw [List.getElem?_set_self (by simp; omega)]; rfl
    | 3 =>
      rw [List.getElem?_set_ne (by omega)]
      rw [List.getElem?_set_self (by simp; omega)]; rfl
    | 4 =>
      rw [List.getElem?_set_self (by simp; omega)]; rfl
    | q + 5 =>
      rw [List.getElem?_set_ne (by omega), List.getElem?_set_ne (by omega), List.getElem?_set_ne (by omega), List.getElem?_set_ne (by omega), List.getElem?_set_ne (by omega)]
      rw [List.getElem?_append_right (by simp), List.getElem?_drop]
      simp only [List.length_cons, List.length_nil]
      congr 1
      omega
/-- One element of a row replaced. -/
theorem sets5_take {L : List Value} {i n : Nat} (hi : i < n) (h : n * 5 ≤ L.length) (c0 c1 c2 c3 c4 : Value) : (((((L.set (i * 5) c0).set (i * 5 + 1) c1).set (i * 5 + 2) c2).set (i * 5 + 3) c3).set (i * 5 + 4) c4).take (n * 5) = (L.take (n * 5)).take (i * 5) ++ [c0, c1, c2, c3, c4] ++ (L.take (n * 5)).drop ((i + 1) * 5) := by
  have h1 : (L.take (i * 5)).length = i * 5 := by rw [List.length_take]; omega
  rw [sets5_list (by omega), List.take_take, Nat.min_eq_left (by omega), List.take_append, List.take_append, List.take_take, Nat.min_eq_right (by omega), h1, List.take_of_length_le (l := [c0, c1, c2, c3, c4]) (by simp; omega), List.drop_take, show (i + 1) * 5 = i * 5 + 5 by omega]
  congr 2
  simp only [List.length_append, List.length_cons, List.length_nil, h1]
theorem RowB.set5 {W : World} {H n : Nat} {t : TypeId} {g cap : Nat} {L xs : List Value} {i : Nat} (hb : BoxL W g t L) (hx : L.take (n * 5) = xs) (hn : n ≤ cap) (hL : L.length = cap * 5) (hH : H ≤ g) (hm : cap ≤ maxLen) (hi : i < n) (c0 c1 c2 c3 c4 : Value) :
    RowB H t 5 n (xs.take (i * 5) ++ [c0, c1, c2, c3, c4] ++ xs.drop ((i + 1) * 5)) (.slice (some ⟨g, 0, none⟩) n cap) (((((W.setCell ⟨g, i * 5, none⟩ c0).setCell ⟨g, i * 5 + 1, none⟩ c1).setCell ⟨g, i * 5 + 2, none⟩ c2).setCell ⟨g, i * 5 + 3, none⟩ c3).setCell ⟨g, i * 5 + 4, none⟩ c4) :=
  ⟨g, cap, _, rfl, hH, hb.set5 (i * 5) c0 c1 c2 c3 c4, by rw [sets5_take hi (by rw [hL]; omega), hx], hn, hm, by simpa using hL⟩
theorem RowB.other5 {W : World} {H n size : Nat} {t u : TypeId} {g : Nat} {xs L : List Value} {v : Value} (h : RowB H t size n xs v W) (hb : BoxL W g u L) (hne : t ≠ u) (i : Nat) (c0 c1 c2 c3 c4 : Value) :
    RowB H t size n xs v (((((W.setCell ⟨g, i, none⟩ c0).setCell ⟨g, i + 1, none⟩ c1).setCell ⟨g, i + 2, none⟩ c2).setCell ⟨g, i + 3, none⟩ c3).setCell ⟨g, i + 4, none⟩ c4) := by
  obtain ⟨g', cap, L', hv, hg, hx, h1⟩ := h
  exact ⟨g', cap, L', hv, hg, hx.other5 (hx.ne hb hne) i c0 c1 c2 c3 c4, h1⟩
theorem own5 {W : World} {base n size g : Nat} {e : TypeId} {v : Value} {xs : List Value} (h : W.ownsRow base e size v n xs) (hg : g < base) (i : Nat) (c0 c1 c2 c3 c4 : Value) :
    (((((W.setCell ⟨g, i, none⟩ c0).setCell ⟨g, i + 1, none⟩ c1).setCell ⟨g, i + 2, none⟩ c2).setCell ⟨g, i + 3, none⟩ c3).setCell ⟨g, i + 4, none⟩ c4).ownsRow base e size v n xs :=
  ownsRow_setCell_below (ownsRow_setCell_below (ownsRow_setCell_below (ownsRow_setCell_below (ownsRow_setCell_below h (a := ⟨g, i, none⟩) hg c0) (a := ⟨g, i + 1, none⟩) hg c1) (a := ⟨g, i + 2, none⟩) hg c2) (a := ⟨g, i + 3, none⟩) hg c3) (a := ⟨g, i + 4, none⟩) hg c4
end Go.Proofs.YtdlhocghiaghfaaGreatDoor

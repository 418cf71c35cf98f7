/-
  What the proofs lean on: Ints, FewA, Turn, TrmOpen.
-/
import Derived.Laws.AppendOwn
import Derived.Laws.OwnMore
import Derived.Laws.AppendOwnNone
import Derived.OwnWalk
import Derived.Deep.LoopGhost
import Derived.Test.YtigkhmppnnljiaaGreatDoorLsoA03
import Derived.Test.YtigkhmppnnljiaaGreatDoorLsoA12
set_option maxRecDepth 100000
set_option maxHeartbeats 16000000
namespace Go.Proofs.YtigkhmppnnljiaaGreatDoor
section
open Go.RowKit
theorem info_int : (Tryz.prog.info? 3).map (fun i => (i.zero, i.size, i.bytes)) = some (some (.int .i64 0), 1, 8) := by kernel_rfl
def I64 (n : Int) : Prop := -9223372036854775808 ≤ n ∧ n ≤ 9223372036854775807
theorem cellsG_ints : ∀ {l : List Int}, (∀ x ∈ l, I64 x) → CellsG 1 IntR l (l.map (Value.int .i64))
 | [], _ => rfl
 | x :: l, h => ⟨[.int .i64 x], l.map (Value.int .i64), rfl, rfl, ⟨rfl, h x (by simp)⟩, cellsG_ints fun y hy => h y (by simp [hy])⟩
theorem SlC.i64 {w : World} {B : Nat} {l : List Int} {v : Value} (h : SlC w B 1 IntR l v) : ∀ x ∈ l, I64 x := by
 obtain ⟨o, len, cap, rfl, _, _, _, h4⟩ := h
 intro x hx
 obtain ⟨i, hi⟩ := List.mem_iff_getElem?.1 hx
 cases o with
 | none => rw [h4.1] at hi; simp at hi
 | some a =>
  obtain ⟨cs, _, _, hr⟩ := h4.2 i x hi
  exact hr.2
theorem rowInts {w : World} {base : Nat} {v : Value} {l : List Int} (h : w.ownsRow base 3 1 v l.length (l.map (Value.int .i64))) (hl : ∀ x ∈ l, I64 x) : SlC w w.heap.size 1 IntR l v := slC_of_row h (cellsG_ints hl)
theorem ownsRow_new {W : World} {b base : Nat} (hb : b = W.heap.size) (hB : base ≤ b) (e : TypeId) (size n : Nat) (cs : List Value) (hl : cs.length = n * size) (hn : n ≤ maxLen) : (W.alloc (.cells cs.toArray e)).ownsRow base e size (.slice (some ⟨b, 0, none⟩) n n) n cs := by
 subst hb
 refine ⟨hl, .inr ⟨W.heap.size, n, cs.toArray, rfl, hB, World.alloc_heap_new W _, Nat.le_refl _, hn, by simpa using hl, ?_⟩⟩
 rw [List.take_of_length_le (by simp [hl])]
theorem intsCell {w : World} {B : Nat} {l : List Int} {o : Option Addr} {len cap : Nat} (h : SlC w B 1 IntR l (.slice o len cap)) (a : Addr) (ho : o = some a) : ∀ (j : Nat) (u : Value), (l.map (Value.int .i64))[j]? = some u → w.cell? (a.add j) = some u := by
 subst ho
 intro j u hj
 simp only [List.getElem?_map, Option.map_eq_some_iff] at hj
 obtain ⟨x, hx, rfl⟩ := hj
 obtain ⟨b, off, cs, ha, _, _, hc, hr⟩ := h.at (Below.refl B w) hx
 simp only [Option.some.injEq] at ha
 subst ha
 have h0 := hc 0 (.int .i64 x) (by rw [hr.1]; rfl)
 rw [add_none rfl]
 simpa using h0
theorem ints_one (l : List Int) : ∀ u ∈ l.map (Value.int .i64), u.oneCell' = true := by
 intro u hu
 obtain ⟨x, _, rfl⟩ := List.mem_map.1 hu
 rfl
theorem wpList_append_ints {w : World} {ops : Array Oper} {rest : List Oper} {o : Oper} {a : Act} {Q : Exit → Act → World → Prop} (hgd : o.guard = none) (s x : Operand)
  (ho : o.op = .call { callee := .builtin .append, args := #[s, x], argTypes := #[32, 32] }) (base B : Nat) (v : Value) (xs l : List Int) (hs : a.eval s = v) (hown : w.ownsRow base 3 1 v xs.length (xs.map (Value.int .i64)))
  (oa : Option Addr) (m c : Nat) (hx : a.eval x = .slice oa m c) (hsl : SlC w B 1 IntR l (.slice oa m c)) (hb : (xs.length + l.length) * 8 ≤ 140737488355328) (hbase : base ≤ w.heap.size)
  (h : ∀ v' w', w'.ownsRow base 3 1 v' (xs ++ l).length ((xs ++ l).map (Value.int .i64)) → w.grownBy w' v.ownBlock → wpList Tryz.prog ops Q rest (a.put o.dst v') w') : wpList Tryz.prog ops Q (o :: rest) a w := by
 obtain ⟨i0, hi, hz0, hz1, hz2⟩ := info_parts info_int
 obtain ⟨rfl, _, _⟩ := hsl.lens
 cases oa with
 | none =>
  obtain ⟨o', l', c', he, _, _, _, h4⟩ := hsl
  simp only [Value.slice.injEq] at he
  obtain ⟨rfl, rfl, rfl⟩ := he
  obtain ⟨rfl, rfl⟩ := h4
  refine wpList_append_own_none hgd s x 32 ho base 3 i0 1 Tryz.underlying32 hi v xs.length _ hs hown hx ?_
  refine h v w (by simpa using hown) ?_
  exact ⟨rfl, rfl, rfl, Nat.le_refl _, fun _ _ _ => rfl⟩
 | some ad =>
  refine wpList_append_own _ hgd s x 32 ho base 3 i0 (.int .i64 0) 1 8 Tryz.underlying32 hi hz0 hz1 hz2 rfl (by decide) v xs.length _ hs hown ad l.length c (l.map (Value.int .i64)) hx (by simp) (intsCell hsl ad rfl) (ints_one l) (by unfold maxLen; omega) hb hbase ?_
  intro v' w' h1 h2 _
  exact h v' w' (by simpa using h1) h2
end
section
open Go.RowKit
theorem fewLA_iff : ∀ (l : List Dat) (left : Int), 0 ≤ left → (0 ≤ Dat.fewL l left ↔ (Dat.allL l : Int) ≤ left)
 | [], left, h => by simp [Dat.fewL, Dat.allL, h]
 | x :: l, left, h => by
  have hb := Dat.few_both x left
  have hi := Dat.few_iff x left
  rw [Dat.fewL, if_pos h, Dat.allL]
  by_cases hf : 0 ≤ Dat.few x left
  ·rw [fewLA_iff l _ hf, hb.1 (hi.1 hf)]
   omega
  ·have h1 : ¬ (Dat.all x : Int) ≤ left := fun hh => hf (hi.2 hh)
   rw [fewL_neg _ hf]
   constructor
   ·intro hh; exact absurd hh hf
   ·intro hh; omega
theorem rfewAll_to (l : List Dat) (sl : Value) (left : Int) (B : Nat) (w : World) (hv : RepS w B l sl) (hB : B ≤ w.heap.size) (h0 : 0 ≤ left) (h1 : left ≤ 100000) (r : Bool) (hr : decide ((Dat.allL l : Int) ≤ left) = r) :
  Calls Tryz.prog 11 #[sl, .int .i64 left] w fun e w' => e = .returned (.bool r) ∧ Below w.heap.size w w' := by
 obtain ⟨o, len, cap, rfl, hl, hcap, hmax, hc⟩ := hv
 have HV := Lib.hid hc
 have HL := Lib.hid hl
 have HR := Lib.hid (show decide (0 ≤ Dat.fewL l left) = r by rw [← hr, Bool.eq_iff_iff]; simp only [decide_eq_true_eq]; exact fewLA_iff l left h0)
 clear hc hl hr
 go_enter Tryz.func11, Tryz.ntmps11
 go_wp2_with fail
 go_loopg [1, 5] len (fun g a i wr => ∃ (cur : Int) (j : Nat), g = len - j ∧ a = .int .i64 cur ∧ i = .int .i64 j ∧ j ≤ len ∧ -1 ≤ cur ∧ cur ≤ 100000 ∧ Hid (Dat.fewL (l.drop j) cur = Dat.fewL l left) ∧ Below w.heap.size w wr)
 case atStart => exact ⟨left, 0, rfl, rfl, rfl, by omega, by omega, by omega, rfl, Below.refl _ _⟩
 case round =>
  obtain ⟨cur, j, rfl, rfl, rfl, hj, hc1, hc2, HF, hb⟩ := hrel
  have HB := Lib.hid hb
  have hsz := hb.size
  clear hb
  by_cases hjl : j < len
  ·by_cases hcur : 0 ≤ cur
   ·obtain ⟨x, hx⟩ : ∃ x, l[j]? = some x := ⟨_, List.getElem?_eq_getElem (by rw [← HL.out]; exact hjl)⟩
    obtain ⟨b1, off1, k1, n1, d1, s1, l1, o1, len1, cap1, ho1, hx1, e0, e1, e2, e3, e4, er⟩ := part_at2 HV.out (HB.out.mono hB) hx
    subst ho1 hx1
    have HX := Lib.hid hx
    have ER := Lib.hid er
    have HF2 := Lib.hid ((fewL_step hx hcur).symm.trans HF.out)
    have g1 := few_ge (.mk k1 n1 d1 s1 l1) cur hcur
    have g2 := Dat.few_le (.mk k1 n1 d1 s1 l1) cur
    obtain ⟨y, hy⟩ : ∃ y, Dat.few (.mk k1 n1 d1 s1 l1) cur = y := ⟨_, rfl⟩
    rw [hy] at g1 g2 HF2
    have HC := Lib.hid (rfew_any _ _ cur B wr ER.out (by omega) hcur (by omega))
    rw [hy] at HC
    clear hx er hy
    go_wp2_with fail
    refine HC.out.mono ?_
    rintro e1 w1 ⟨rfl, hb1⟩
    have HB1 := Lib.hid (Below.next HB.out hb1)
    clear hb1
    go_wp2_with fail
    go_roundg (len - (j + 1))
    case measure => omega
    case rel => exact ⟨y, j + 1, rfl, rfl, by go_num, by omega, by omega, by omega, HF2, HB1.out⟩
   ·have HQ := Lib.hid (show decide (0 ≤ cur) = r by rw [← HR.out, ← HF.out, fewL_neg _ hcur])
    obtain rfl : false = r := by rw [← HQ.out, decide_eq_false hcur]
    go_wp2_with fail
    go_ret
    exact ⟨rfl, HB.out⟩
  ·obtain rfl : len = j := by omega
   have HQ := Lib.hid (show decide (0 ≤ cur) = r by
     rw [← HR.out, ← HF.out, List.drop_eq_nil_of_le (by rw [← HL.out]; exact Nat.le_refl _)]; rfl)
   by_cases hcur : 0 ≤ cur
   ·obtain rfl : true = r := by rw [← HQ.out, decide_eq_true hcur]
    go_wp2_with fail
    go_ret
    exact ⟨rfl, HB.out⟩
   ·obtain rfl : false = r := by rw [← HQ.out, decide_eq_false hcur]
    go_wp2_with fail
    go_ret
    exact ⟨rfl, HB.out⟩
def Unt.fewP (n rg : Int) : List Proc → Int → Bool
 | [], _ => true
 | p :: l, k => !decide (n < p.code.length) && (!decide (rg < p.regs) && (p.code.all (fun x => decide (x.l.length ≤ 60)) && (!decide (n < k + p.code.length) && Unt.fewP n rg l (k + p.code.length))))
def Unt.fewB (u : Unt) (n rg : Int) : Bool := !decide (30 < (u.procs.length : Int)) && (decide ((Dat.allL u.consts : Int) ≤ 2000) && Unt.fewP n rg u.procs 0)
theorem fewP_step {n rg : Int} {l : List Proc} {j : Nat} {p : Proc} {k : Int} (h : l[j]? = some p) : Unt.fewP n rg (l.drop j) k = (!decide (n < p.code.length) && (!decide (rg < p.regs) && (p.code.all (fun x => decide (x.l.length ≤ 60)) && (!decide (n < k + p.code.length) && Unt.fewP n rg (l.drop (j + 1)) (k + p.code.length))))) := by
 obtain ⟨hj, he⟩ := List.getElem?_eq_some_iff.1 h
 rw [List.drop_eq_getElem_cons hj, he, Unt.fewP]
end
section
open Go Go.RowKit
structure Turned (S : Nat → Prop) (A B : World) : Prop where
 os : B.os = A.os
 tape : B.tape = A.tape
 output : B.output = A.output
 size : A.heap.size ≤ B.heap.size
 block : ∀ b, b < A.heap.size → ¬ S b → B.heap[b]? = A.heap[b]?
theorem Turned.refl (S : Nat → Prop) (A : World) : Turned S A A := ⟨rfl, rfl, rfl, Nat.le_refl _, fun _ _ _ => rfl⟩
theorem Turned.trans {S S' : Nat → Prop} {A B C : World} (h : Turned S A B) (h' : Turned S' B C) (hS : ∀ b, b < A.heap.size → S' b → S b) : Turned S A C :=
 ⟨h'.os.trans h.os, h'.tape.trans h.tape, h'.output.trans h.output, Nat.le_trans h.size h'.size, fun b hb hn => (h'.block b (Nat.lt_of_lt_of_le hb h.size) (fun hs => hn (hS b hb hs))).trans (h.block b hb hn)⟩
theorem Turned.next {S : Nat → Prop} {A B C : World} (h : Turned S A B) (h' : Turned S B C) : Turned S A C := h.trans h' fun _ _ h => h
theorem Turned.wider {S S' : Nat → Prop} {A B : World} (h : Turned S A B) (hS : ∀ b, b < A.heap.size → S b → S' b) : Turned S' A B := ⟨h.os, h.tape, h.output, h.size, fun b hb hn => h.block b hb fun hs => hn (hS b hb hs)⟩
theorem Turned.of_below {S : Nat → Prop} {A B : World} (h : Below A.heap.size A B) : Turned S A B := ⟨h.os, h.tape, h.output, h.size, fun b hb _ => h.block b hb⟩
theorem Turned.below {S : Nat → Prop} {A B : World} (h : Turned S A B) {b0 : Nat} (hS : ∀ b, S b → b0 ≤ b) (hb0 : b0 ≤ A.heap.size) : Below b0 A B :=
 ⟨h.os, h.tape, h.output, h.size, fun b hb => h.block b (Nat.lt_of_lt_of_le hb hb0) fun hs => by have := hS b hs; omega⟩
theorem Turned.set {S : Nat → Prop} (A : World) (a : Addr) (v : Value) (ha : S a.block) : Turned S A (A.setCell a v) := ⟨rfl, rfl, rfl, by rw [World.size_setCell]; exact Nat.le_refl _, fun b _ hn => setCell_heap_other A a v fun e => hn (e ▸ ha)⟩
theorem Turned.grown {S : Nat → Prop} {A B : World} {row : Option Nat} (h : A.grownBy B row) (hr : ∀ b, row = some b → S b) : Turned S A B := ⟨h.os, h.tape, h.output, h.size, fun b hb hn => h.block b hb fun e => hn (hr b e.symm)⟩
theorem Turned.box {S : Nat → Prop} {A B : World} (h : Turned S A B) {b : Nat} {t : TypeId} {cs : List Value} (hb : BoxL A b t cs) (hn : ¬ S b) : BoxL B b t cs := (h.block b hb.lt hn).trans hb
end
section
open Go Go.RowKit Go.Deep Go.ChangeShapes Go.WideShapes Go.ChangeAt
section
variable {H : Type} {enc : TypeId × Value → H}
theorem slC_of_trodF {α : Type} {w : World} {ts te : TypeId} {size bs : Nat} (hu : Tryz.prog.underlying ts = some (.slice te)) (hcs : Tryz.prog.cellsOf te = size) (hbs : Tryz.prog.bytesOf te = bs) (hpos : 0 < size) (hbp : 0 < bs) {R : α → List Value → Prop}
  (fuel : Nat) (hel : ∀ n' cs' y, n' < fuel → DataW.trod enc Tryz.prog w 0 (fun _ => true) true n' te cs' = some y → (∀ n ∈ y.1.weights Tryz.prog te, n ≤ reachBytes) → ∃ x, R x cs') (c4 : Value) (x4 : DataW H × List MemPlace) (g4 : DataW.trod enc Tryz.prog w 0 (fun _ => true) true fuel ts [c4] = some x4) (w4 : ∀ n ∈ x4.1.weights Tryz.prog ts, n ≤ reachBytes) : ∃ l : List α, SlC w w.heap.size size R l c4 := by
 rcases DataW.trod_slice hu g4 with ⟨e4, _⟩ | ⟨a, len, cap, elems, rest, n', rfl, e4, hx4, _, hle, _, hel2, hget4, hsp, _⟩
 ·have f4 : c4 = .slice none 0 0 := by simpa using e4
  subst f4
  exact ⟨[], none, 0, 0, rfl, rfl, by omega, by omega, rfl, rfl⟩
 ·have f4 : c4 = .slice (some a) len cap := by simpa using e4
  subst f4 hx4
  have hrest := (hsp rfl).1
  have hcap : cap ≤ 9223372036854775807 := by
   have := w4 ((elems.length + rest.length) * bs) (by simp [DataW.weights, hu, hbs])
   have h9 : (elems.length + rest.length) * bs ≤ 140737488351232 := this
   have h10 : (elems.length + rest.length) * 1 ≤ (elems.length + rest.length) * bs := Nat.mul_le_mul_left _ hbp
   omega
  by_cases h0 : len = 0
  ·subst h0
   exact ⟨[], some a, 0, cap, rfl, rfl, by omega, hcap, fun h => absurd rfl h, fun i x hx => by simp at hx⟩
  have hat : ∀ i (hi : i < len), ∃ cs', w.cells? 0 (a.add (i * size)) size = some cs' ∧ DataW.trod enc Tryz.prog w 0 (fun _ => true) true n' te cs' = some (elems[i]'(by omega)) := by
   intro i hi
   have hb := hget4 i hi
   rw [hcs, List.getElem?_eq_getElem (by omega)] at hb
   exact Option.bind_eq_some_iff.1 hb
  obtain ⟨hspot, hblk⟩ : a.spot = none ∧ a.block < w.heap.size := by
   obtain ⟨cs', hc1, _⟩ := hat 0 (by omega)
   obtain ⟨_, hl5, hcs⟩ := World.cells?_some hc1
   have h00 := hcs 0 (by omega)
   rw [List.getElem?_eq_getElem (by omega)] at h00
   have := cell_spot h00
   simpa [Addr.add] using this
  have hcell : ∀ i, i < len → ∃ x : α, ∃ cs : List Value, cs.length = size ∧ (∀ j u, cs[j]? = some u → w.cell? ⟨a.block, a.off + i * size + j, none⟩ = some u) ∧ R x cs := by
   intro i hi
   obtain ⟨cs', hc1, hc2⟩ := hat i hi
   obtain ⟨_, hl5, hcs⟩ := World.cells?_some hc1
   rw [add_none hspot] at hcs
   obtain ⟨x, hx⟩ := hel n' _ _ (by omega) hc2 (fun q hq => w4 q (by
     simp only [DataW.weights, hu, List.mem_cons, List.mem_append]
     refine Or.inr (Or.inl (weightsAll_mem (d := (elems[i]'(by omega)).1) ?_ q hq))
     exact List.mem_map_of_mem (List.getElem_mem _)))
   refine ⟨x, cs', hl5, fun j u hj => ?_, hx⟩
   have hjl : j < size := by have := (List.getElem?_eq_some_iff.1 hj).1; omega
   have := hcs j hjl
   rw [add_none rfl] at this
   rw [← hj]; exact this
  obtain ⟨l, hl, hP⟩ := list_choice hcell
  exact ⟨l, some a, len, cap, rfl, hl.symm, hle, hcap, fun _ => ⟨hspot, hblk⟩, fun i x hx => hP i x hx⟩
end
end
end Go.Proofs.YtigkhmppnnljiaaGreatDoor

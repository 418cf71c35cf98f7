/-
  What the proofs lean on: MapB, Ints, FewA, Fits0, RAlike, Turn, TrmOpen.
-/
import Derived.Maps.Own
import Derived.Maps.OwnOps
import Derived.Maps.Views
import Derived.Laws.AppendOwn
import Derived.Laws.OwnMore
import Derived.Laws.AppendOwnNone
import Derived.OwnWalk
import Derived.Deep.LoopGhost
import Derived.Test.YtigkhmppnnljiaaGreatDoorPreA03
import Derived.Test.YtigkhmppnnljiaaGreatDoorPreA08
import Derived.Test.YtigkhmppnnljiaaGreatDoorPreA09
import Derived.Test.YtigkhmppnnljiaaGreatDoorPreA10
import Derived.Test.YtigkhmppnnljiaaGreatDoorPreA12
set_option maxRecDepth 100000
set_option maxHeartbeats 16000000
namespace Go.Proofs.YtigkhmppnnljiaaGreatDoor
section
open Go.RowKit Go.Maps
theorem plainElem_bool_inv {H : Type} {P : Program} {e : TypeId} (he : P.underlying e = some .bool) {v : Value} {z : DataW H × List MemPlace} (h : plainElem P e v = some z) : ∃ a, v = .bool a ∧ z = (.lit (.bool a), []) := by
 unfold plainElem at h
 rw [he] at h
 cases v <;> simp at h
 exact ⟨_, rfl, h.symm⟩
theorem wpList_insert_own {H : Type} {P : Program} (w : World) {ops : Array Oper} {rest : List Oper} {o : Oper} {a : Act} {Q : Exit → Act → World → Prop}
  (hg : o.guard = none) (m x v : Operand) (t : TypeId) (hop : o.op = Op.insert t m x v)
  (k e : TypeId) (K : Keyed P k) (ht : P.underlying t = some (.map k e)) (R : Value → Option (DataW H × List MemPlace)) (b n : Nat) (D : DataW H)
  (hm : a.eval m = .map (some b)) (hown : w.ownsMap P k R b n D) (hn : n < maxLen) (key val : Value) (kl : Lit) (hx : a.eval x = key) (hv : a.eval v = val) (hkey : keyOf P k key = some kl)
  (d : DataW H) (ps : List MemPlace) (hval : R val = some (d, ps))
  (hK : ∀ w', w'.ownsMap P k R b (n + 1) (D.put kl d) → w.grownBy w' (some b) → wpList P ops Q rest (a.put o.dst undef) w') :
  wpList P ops Q (o :: rest) a w := by
 refine wpList_plain hg fun K' hK' => ?_
 obtain ⟨w', hrun, r1, r2⟩ := hown.update K ht hn hkey hval
 unfold Oper.wp
 simp [execOp, hop, hm, hx, hv, hrun, Result.andThen]
 exact hK' _ _ (hK w' r1 r2)
end
section
open Go.RowKit
theorem info_int : (Tryz.prog.info? 3).map (fun i => (i.zero, i.size, i.bytes)) = some (some (.int .i64 0), 1, 8) := by kernel_rfl
def I64 (n : Int) : Prop := -9223372036854775808 ≤ n ∧ n ≤ 9223372036854775807
theorem cellsG_ints : ∀ {l : List Int}, (∀ x ∈ l, I64 x) → CellsG 1 IntR l (l.map (Value.int .i64))
 | [], _ => rfl
 | x :: l, h => ⟨[.int .i64 x], l.map (Value.int .i64), rfl, rfl, ⟨rfl, h x (by simp)⟩, cellsG_ints fun y hy => h y (by simp [hy])⟩
theorem SlC.i64 {w : World} {B : Nat} {l : List Int} {v : Value} (h : SlC w B 1 IntR l v) : ∀ x ∈ l, I64 x := by
 obtain ⟨o, len, cap, rfl, _, _, _, h4⟩ := h
 intro x hx
 obtain ⟨i, hi⟩ := List.mem_iff_getElem?.1 hx
 cases o with
 | none => rw [h4.1] at hi; simp at hi
 | some a =>
  obtain ⟨cs, _, _, hr⟩ := h4.2 i x hi
  exact hr.2
theorem rowInts {w : World} {base : Nat} {v : Value} {l : List Int} (h : w.ownsRow base 3 1 v l.length (l.map (Value.int .i64))) (hl : ∀ x ∈ l, I64 x) : SlC w w.heap.size 1 IntR l v := slC_of_row h (cellsG_ints hl)
theorem ownsRow_new {W : World} {b base : Nat} (hb : b = W.heap.size) (hB : base ≤ b) (e : TypeId) (size n : Nat) (cs : List Value) (hl : cs.length = n * size) (hn : n ≤ maxLen) : (W.alloc (.cells cs.toArray e)).ownsRow base e size (.slice (some ⟨b, 0, none⟩) n n) n cs := by
 subst hb
 refine ⟨hl, .inr ⟨W.heap.size, n, cs.toArray, rfl, hB, World.alloc_heap_new W _, Nat.le_refl _, hn, by simpa using hl, ?_⟩⟩
 rw [List.take_of_length_le (by simp [hl])]
theorem intsCell {w : World} {B : Nat} {l : List Int} {o : Option Addr} {len cap : Nat} (h : SlC w B 1 IntR l (.slice o len cap)) (a : Addr) (ho : o = some a) : ∀ (j : Nat) (u : Value), (l.map (Value.int .i64))[j]? = some u → w.cell? (a.add j) = some u := by
 subst ho
 intro j u hj
 simp only [List.getElem?_map, Option.map_eq_some_iff] at hj
 obtain ⟨x, hx, rfl⟩ := hj
 obtain ⟨b, off, cs, ha, _, _, hc, hr⟩ := h.at (Below.refl B w) hx
 simp only [Option.some.injEq] at ha
 subst ha
 have h0 := hc 0 (.int .i64 x) (by rw [hr.1]; rfl)
 rw [add_none rfl]
 simpa using h0
theorem ints_one (l : List Int) : ∀ u ∈ l.map (Value.int .i64), u.oneCell' = true := by
 intro u hu
 obtain ⟨x, _, rfl⟩ := List.mem_map.1 hu
 rfl
theorem wpList_append_ints {w : World} {ops : Array Oper} {rest : List Oper} {o : Oper} {a : Act} {Q : Exit → Act → World → Prop} (hgd : o.guard = none) (s x : Operand)
  (ho : o.op = .call { callee := .builtin .append, args := #[s, x], argTypes := #[32, 32] }) (base B : Nat) (v : Value) (xs l : List Int) (hs : a.eval s = v) (hown : w.ownsRow base 3 1 v xs.length (xs.map (Value.int .i64)))
  (oa : Option Addr) (m c : Nat) (hx : a.eval x = .slice oa m c) (hsl : SlC w B 1 IntR l (.slice oa m c)) (hb : (xs.length + l.length) * 8 ≤ 140737488355328) (hbase : base ≤ w.heap.size)
  (h : ∀ v' w', w'.ownsRow base 3 1 v' (xs ++ l).length ((xs ++ l).map (Value.int .i64)) → w.grownBy w' v.ownBlock → wpList Tryz.prog ops Q rest (a.put o.dst v') w') : wpList Tryz.prog ops Q (o :: rest) a w := by
 obtain ⟨i0, hi, hz0, hz1, hz2⟩ := info_parts info_int
 obtain ⟨rfl, _, _⟩ := hsl.lens
 cases oa with
 | none =>
  obtain ⟨o', l', c', he, _, _, _, h4⟩ := hsl
  simp only [Value.slice.injEq] at he
  obtain ⟨rfl, rfl, rfl⟩ := he
  obtain ⟨rfl, rfl⟩ := h4
  refine wpList_append_own_none hgd s x 32 ho base 3 i0 1 Tryz.underlying32 hi v xs.length _ hs hown hx ?_
  refine h v w (by simpa using hown) ?_
  exact ⟨rfl, rfl, rfl, Nat.le_refl _, fun _ _ _ => rfl⟩
 | some ad =>
  refine wpList_append_own _ hgd s x 32 ho base 3 i0 (.int .i64 0) 1 8 Tryz.underlying32 hi hz0 hz1 hz2 rfl (by decide) v xs.length _ hs hown ad l.length c (l.map (Value.int .i64)) hx (by simp) (intsCell hsl ad rfl) (ints_one l) (by unfold maxLen; omega) hb hbase ?_
  intro v' w' h1 h2 _
  exact h v' w' (by simpa using h1) h2
end
section
open Go.RowKit
theorem fewLA_iff : ∀ (l : List Dat) (left : Int), 0 ≤ left → (0 ≤ Dat.fewL l left ↔ (Dat.allL l : Int) ≤ left)
 | [], left, h => by simp [Dat.fewL, Dat.allL, h]
 | x :: l, left, h => by
  have hb := Dat.few_both x left
  have hi := Dat.few_iff x left
  rw [Dat.fewL, if_pos h, Dat.allL]
  by_cases hf : 0 ≤ Dat.few x left
  ·rw [fewLA_iff l _ hf, hb.1 (hi.1 hf)]
   omega
  ·have h1 : ¬ (Dat.all x : Int) ≤ left := fun hh => hf (hi.2 hh)
   rw [fewL_neg _ hf]
   constructor
   ·intro hh; exact absurd hh hf
   ·intro hh; omega
theorem rfewAll_to (l : List Dat) (sl : Value) (left : Int) (B : Nat) (w : World) (hv : RepS w B l sl) (hB : B ≤ w.heap.size) (h0 : 0 ≤ left) (h1 : left ≤ 100000) (r : Bool) (hr : decide ((Dat.allL l : Int) ≤ left) = r) :
  Calls Tryz.prog 11 #[sl, .int .i64 left] w fun e w' => e = .returned (.bool r) ∧ Below w.heap.size w w' := by
 obtain ⟨o, len, cap, rfl, hl, hcap, hmax, hc⟩ := hv
 have HV := Lib.hid hc
 have HL := Lib.hid hl
 have HR := Lib.hid (show decide (0 ≤ Dat.fewL l left) = r by rw [← hr, Bool.eq_iff_iff]; simp only [decide_eq_true_eq]; exact fewLA_iff l left h0)
 clear hc hl hr
 go_enter Tryz.func11, Tryz.ntmps11
 go_wp2_with fail
 go_loopg [1, 5] len (fun g a i wr => ∃ (cur : Int) (j : Nat), g = len - j ∧ a = .int .i64 cur ∧ i = .int .i64 j ∧ j ≤ len ∧ -1 ≤ cur ∧ cur ≤ 100000 ∧ Hid (Dat.fewL (l.drop j) cur = Dat.fewL l left) ∧ Below w.heap.size w wr)
 case atStart => exact ⟨left, 0, rfl, rfl, rfl, by omega, by omega, by omega, rfl, Below.refl _ _⟩
 case round =>
  obtain ⟨cur, j, rfl, rfl, rfl, hj, hc1, hc2, HF, hb⟩ := hrel
  have HB := Lib.hid hb
  have hsz := hb.size
  clear hb
  by_cases hjl : j < len
  ·by_cases hcur : 0 ≤ cur
   ·obtain ⟨x, hx⟩ : ∃ x, l[j]? = some x := ⟨_, List.getElem?_eq_getElem (by rw [← HL.out]; exact hjl)⟩
    obtain ⟨b1, off1, k1, n1, d1, s1, l1, o1, len1, cap1, ho1, hx1, e0, e1, e2, e3, e4, er⟩ := part_at2 HV.out (HB.out.mono hB) hx
    subst ho1 hx1
    have HX := Lib.hid hx
    have ER := Lib.hid er
    have HF2 := Lib.hid ((fewL_step hx hcur).symm.trans HF.out)
    have g1 := few_ge (.mk k1 n1 d1 s1 l1) cur hcur
    have g2 := Dat.few_le (.mk k1 n1 d1 s1 l1) cur
    obtain ⟨y, hy⟩ : ∃ y, Dat.few (.mk k1 n1 d1 s1 l1) cur = y := ⟨_, rfl⟩
    rw [hy] at g1 g2 HF2
    have HC := Lib.hid (rfew_any _ _ cur B wr ER.out (by omega) hcur (by omega))
    rw [hy] at HC
    clear hx er hy
    go_wp2_with fail
    refine HC.out.mono ?_
    rintro e1 w1 ⟨rfl, hb1⟩
    have HB1 := Lib.hid (Below.next HB.out hb1)
    clear hb1
    go_wp2_with fail
    go_roundg (len - (j + 1))
    case measure => omega
    case rel => exact ⟨y, j + 1, rfl, rfl, by go_num, by omega, by omega, by omega, HF2, HB1.out⟩
   ·have HQ := Lib.hid (show decide (0 ≤ cur) = r by rw [← HR.out, ← HF.out, fewL_neg _ hcur])
    obtain rfl : false = r := by rw [← HQ.out, decide_eq_false hcur]
    go_wp2_with fail
    go_ret
    exact ⟨rfl, HB.out⟩
  ·obtain rfl : len = j := by omega
   have HQ := Lib.hid (show decide (0 ≤ cur) = r by
     rw [← HR.out, ← HF.out, List.drop_eq_nil_of_le (by rw [← HL.out]; exact Nat.le_refl _)]; rfl)
   by_cases hcur : 0 ≤ cur
   ·obtain rfl : true = r := by rw [← HQ.out, decide_eq_true hcur]
    go_wp2_with fail
    go_ret
    exact ⟨rfl, HB.out⟩
   ·obtain rfl : false = r := by rw [← HQ.out, decide_eq_false hcur]
    go_wp2_with fail
    go_ret
    exact ⟨rfl, HB.out⟩
def Unt.fewP (n rg : Int) : List Proc → Int → Bool
 | [], _ => true
 | p :: l, k => !decide (n < p.code.length) && (!decide (rg < p.regs) && (p.code.all (fun x => decide (x.l.length ≤ 60)) && (!decide (n < k + p.code.length) && Unt.fewP n rg l (k + p.code.length))))
def Unt.fewB (u : Unt) (n rg : Int) : Bool := !decide (30 < (u.procs.length : Int)) && (decide ((Dat.allL u.consts : Int) ≤ 2000) && Unt.fewP n rg u.procs 0)
theorem fewP_step {n rg : Int} {l : List Proc} {j : Nat} {p : Proc} {k : Int} (h : l[j]? = some p) : Unt.fewP n rg (l.drop j) k = (!decide (n < p.code.length) && (!decide (rg < p.regs) && (p.code.all (fun x => decide (x.l.length ≤ 60)) && (!decide (n < k + p.code.length) && Unt.fewP n rg (l.drop (j + 1)) (k + p.code.length))))) := by
 obtain ⟨hj, he⟩ := List.getElem?_eq_some_iff.1 h
 rw [List.drop_eq_getElem_cons hj, he, Unt.fewP]
end
section
open Go.RowKit
theorem below_to (n m : Int) (r : Bool) (hr : Unt.below n m = r) (w : World) : Calls Tryz.prog 61 #[.int .i64 n, .int .i64 m] w fun e w' => e = .returned (.bool r) ∧ w' = w := by
 by_cases h0 : 0 ≤ n
 ·by_cases h1 : n < m
  ·obtain rfl : true = r := by rw [← hr]; simp [Unt.below, h0, h1]
   clear hr
   go_enter Tryz.func61, Tryz.ntmps61
   go_wp2_with fail
   go_ret
   exact ⟨rfl, rfl⟩
  ·obtain rfl : false = r := by rw [← hr]; simp [Unt.below, h1]
   have h1' : decide (n < m) = false := decide_eq_false h1
   clear hr h1
   go_enter Tryz.func61, Tryz.ntmps61
   go_wp2_with fail
   go_ret
   exact ⟨rfl, rfl⟩
 ·obtain rfl : false = r := by rw [← hr]; simp [Unt.below, h0]
  have h0' : decide (0 ≤ n) = false := decide_eq_false h0
  clear hr h0
  go_enter Tryz.func61, Tryz.ntmps61
  go_wp2_with fail
  go_ret
  exact ⟨rfl, rfl⟩
theorem reg_to (has : Bool) (n regs : Int) (r : Bool) (hr : Unt.regB has n regs = r) (pb : Nat) (w : World) (hc : w.cell? ⟨pb, 2, none⟩ = some (.int .i64 regs)) : Calls Tryz.prog 60 #[.bool has, .int .i64 n, .pointer (some ⟨pb, 0, none⟩)] w fun e w' => e = .returned (.bool r) ∧ w' = w := by
 have HR := Lib.hid hr
 clear hr
 cases has with
 | true =>
  have HB := Lib.hid (show Unt.below n regs = r from by rw [← HR.out]; simp [Unt.regB])
  go_enter Tryz.func60, Tryz.ntmps60
  go_wp2_with fail
  refine (below_to n regs r HB.out _).mono ?_
  rintro e w' ⟨rfl, rfl⟩
  go_wp2_with fail
  go_ret
  exact ⟨rfl, rfl⟩
 | false =>
  by_cases hn : n = 0
  ·subst hn
   obtain rfl : true = r := HR.out
   go_enter Tryz.func60, Tryz.ntmps60
   go_wp2_with fail
   go_ret
   exact ⟨rfl, rfl⟩
  ·have hn' : (n == 0) = false := by simpa using hn
   obtain rfl : false = r := by rw [← HR.out]; simp [Unt.regB, hn]
   go_enter Tryz.func60, Tryz.ntmps60
   go_wp2_with fail
   go_ret
   exact ⟨rfl, rfl⟩
theorem regN_to (n regs : Int) (r : Bool) (hr : Unt.below n regs = r) (pb : Nat) (w : World) (hc : w.cell? ⟨pb, 2, none⟩ = some (.int .i64 regs)) : Calls Tryz.prog 63 #[.int .i64 n, .pointer (some ⟨pb, 0, none⟩)] w fun e w' => e = .returned (.bool (!r)) ∧ w' = w := by
 go_enter Tryz.func63, Tryz.ntmps63
 go_wp2_with fail
 refine (below_to n regs r hr _).mono ?_
 rintro e w' ⟨rfl, rfl⟩
 go_wp2_with fail
 go_ret
 exact ⟨rfl, rfl⟩
theorem parts_0 (w : World) : Calls Tryz.prog 59 #[.int .i64 0] w fun e w' => e = .returned (.tuple #[.agg #[.bool true, .bool false, .bool false, .bool false, .bool true, .bool false], .bool true]) ∧ Below w.heap.size w w' := by
 go_enter Tryz.func59, Tryz.ntmps59
 go_wp2_with fail
 exact bodyPost_ret (v := .tuple #[.agg #[.bool true, .bool false, .bool false, .bool false, .bool true, .bool false], .bool true]) (by simp [results, Tryz.results59, go_sem]) rfl ⟨rfl, Below.one _ _⟩
theorem parts_1 (w : World) : Calls Tryz.prog 59 #[.int .i64 1] w fun e w' => e = .returned (.tuple #[.agg #[.bool true, .bool true, .bool false, .bool false, .bool false, .bool false], .bool true]) ∧ Below w.heap.size w w' := by
 go_enter Tryz.func59, Tryz.ntmps59
 go_wp2_with fail
 exact bodyPost_ret (v := .tuple #[.agg #[.bool true, .bool true, .bool false, .bool false, .bool false, .bool false], .bool true]) (by simp [results, Tryz.results59, go_sem]) rfl ⟨rfl, Below.one _ _⟩
theorem parts_2 (w : World) : Calls Tryz.prog 59 #[.int .i64 2] w fun e w' => e = .returned (.tuple #[.agg #[.bool true, .bool false, .bool false, .bool false, .bool true, .bool false], .bool true]) ∧ Below w.heap.size w w' := by
 go_enter Tryz.func59, Tryz.ntmps59
 go_wp2_with fail
 exact bodyPost_ret (v := .tuple #[.agg #[.bool true, .bool false, .bool false, .bool false, .bool true, .bool false], .bool true]) (by simp [results, Tryz.results59, go_sem]) rfl ⟨rfl, Below.one _ _⟩
theorem parts_3 (w : World) : Calls Tryz.prog 59 #[.int .i64 3] w fun e w' => e = .returned (.tuple #[.agg #[.bool true, .bool false, .bool false, .bool false, .bool false, .bool false], .bool true]) ∧ Below w.heap.size w w' := by
 go_enter Tryz.func59, Tryz.ntmps59
 go_wp2_with fail
 exact bodyPost_ret (v := .tuple #[.agg #[.bool true, .bool false, .bool false, .bool false, .bool false, .bool false], .bool true]) (by simp [results, Tryz.results59, go_sem]) rfl ⟨rfl, Below.one _ _⟩
theorem parts_4 (w : World) : Calls Tryz.prog 59 #[.int .i64 4] w fun e w' => e = .returned (.tuple #[.agg #[.bool true, .bool false, .bool false, .bool false, .bool false, .bool false], .bool true]) ∧ Below w.heap.size w w' := by
 go_enter Tryz.func59, Tryz.ntmps59
 go_wp2_with fail
 exact bodyPost_ret (v := .tuple #[.agg #[.bool true, .bool false, .bool false, .bool false, .bool false, .bool false], .bool true]) (by simp [results, Tryz.results59, go_sem]) rfl ⟨rfl, Below.one _ _⟩
theorem parts_5 (w : World) : Calls Tryz.prog 59 #[.int .i64 5] w fun e w' => e = .returned (.tuple #[.agg #[.bool true, .bool false, .bool false, .bool false, .bool true, .bool false], .bool true]) ∧ Below w.heap.size w w' := by
 go_enter Tryz.func59, Tryz.ntmps59
 go_wp2_with fail
 exact bodyPost_ret (v := .tuple #[.agg #[.bool true, .bool false, .bool false, .bool false, .bool true, .bool false], .bool true]) (by simp [results, Tryz.results59, go_sem]) rfl ⟨rfl, Below.one _ _⟩
theorem parts_6 (w : World) : Calls Tryz.prog 59 #[.int .i64 6] w fun e w' => e = .returned (.tuple #[.agg #[.bool true, .bool false, .bool false, .bool false, .bool true, .bool false], .bool true]) ∧ Below w.heap.size w w' := by
 go_enter Tryz.func59, Tryz.ntmps59
 go_wp2_with fail
 exact bodyPost_ret (v := .tuple #[.agg #[.bool true, .bool false, .bool false, .bool false, .bool true, .bool false], .bool true]) (by simp [results, Tryz.results59, go_sem]) rfl ⟨rfl, Below.one _ _⟩
theorem parts_7 (w : World) : Calls Tryz.prog 59 #[.int .i64 7] w fun e w' => e = .returned (.tuple #[.agg #[.bool true, .bool false, .bool false, .bool true, .bool true, .bool false], .bool true]) ∧ Below w.heap.size w w' := by
 go_enter Tryz.func59, Tryz.ntmps59
 go_wp2_with fail
 exact bodyPost_ret (v := .tuple #[.agg #[.bool true, .bool false, .bool false, .bool true, .bool true, .bool false], .bool true]) (by simp [results, Tryz.results59, go_sem]) rfl ⟨rfl, Below.one _ _⟩
theorem parts_8 (w : World) : Calls Tryz.prog 59 #[.int .i64 8] w fun e w' => e = .returned (.tuple #[.agg #[.bool false, .bool true, .bool false, .bool true, .bool false, .bool false], .bool true]) ∧ Below w.heap.size w w' := by
 go_enter Tryz.func59, Tryz.ntmps59
 go_wp2_with fail
 exact bodyPost_ret (v := .tuple #[.agg #[.bool false, .bool true, .bool false, .bool true, .bool false, .bool false], .bool true]) (by simp [results, Tryz.results59, go_sem]) rfl ⟨rfl, Below.one _ _⟩
theorem parts_9 (w : World) : Calls Tryz.prog 59 #[.int .i64 9] w fun e w' => e = .returned (.tuple #[.agg #[.bool true, .bool false, .bool false, .bool true, .bool true, .bool false], .bool true]) ∧ Below w.heap.size w w' := by
 go_enter Tryz.func59, Tryz.ntmps59
 go_wp2_with fail
 exact bodyPost_ret (v := .tuple #[.agg #[.bool true, .bool false, .bool false, .bool true, .bool true, .bool false], .bool true]) (by simp [results, Tryz.results59, go_sem]) rfl ⟨rfl, Below.one _ _⟩
theorem parts_10 (w : World) : Calls Tryz.prog 59 #[.int .i64 10] w fun e w' => e = .returned (.tuple #[.agg #[.bool true, .bool true, .bool false, .bool false, .bool false, .bool false], .bool true]) ∧ Below w.heap.size w w' := by
 go_enter Tryz.func59, Tryz.ntmps59
 go_wp2_with fail
 exact bodyPost_ret (v := .tuple #[.agg #[.bool true, .bool true, .bool false, .bool false, .bool false, .bool false], .bool true]) (by simp [results, Tryz.results59, go_sem]) rfl ⟨rfl, Below.one _ _⟩
theorem parts_11 (w : World) : Calls Tryz.prog 59 #[.int .i64 11] w fun e w' => e = .returned (.tuple #[.agg #[.bool true, .bool true, .bool false, .bool false, .bool false, .bool false], .bool true]) ∧ Below w.heap.size w w' := by
 go_enter Tryz.func59, Tryz.ntmps59
 go_wp2_with fail
 exact bodyPost_ret (v := .tuple #[.agg #[.bool true, .bool true, .bool false, .bool false, .bool false, .bool false], .bool true]) (by simp [results, Tryz.results59, go_sem]) rfl ⟨rfl, Below.one _ _⟩
theorem parts_12 (w : World) : Calls Tryz.prog 59 #[.int .i64 12] w fun e w' => e = .returned (.tuple #[.agg #[.bool false, .bool true, .bool true, .bool false, .bool false, .bool false], .bool true]) ∧ Below w.heap.size w w' := by
 go_enter Tryz.func59, Tryz.ntmps59
 go_wp2_with fail
 exact bodyPost_ret (v := .tuple #[.agg #[.bool false, .bool true, .bool true, .bool false, .bool false, .bool false], .bool true]) (by simp [results, Tryz.results59, go_sem]) rfl ⟨rfl, Below.one _ _⟩
theorem parts_13 (w : World) : Calls Tryz.prog 59 #[.int .i64 13] w fun e w' => e = .returned (.tuple #[.agg #[.bool false, .bool true, .bool true, .bool false, .bool false, .bool false], .bool true]) ∧ Below w.heap.size w w' := by
 go_enter Tryz.func59, Tryz.ntmps59
 go_wp2_with fail
 exact bodyPost_ret (v := .tuple #[.agg #[.bool false, .bool true, .bool true, .bool false, .bool false, .bool false], .bool true]) (by simp [results, Tryz.results59, go_sem]) rfl ⟨rfl, Below.one _ _⟩
theorem parts_14 (w : World) : Calls Tryz.prog 59 #[.int .i64 14] w fun e w' => e = .returned (.tuple #[.agg #[.bool true, .bool true, .bool false, .bool false, .bool false, .bool false], .bool true]) ∧ Below w.heap.size w w' := by
 go_enter Tryz.func59, Tryz.ntmps59
 go_wp2_with fail
 exact bodyPost_ret (v := .tuple #[.agg #[.bool true, .bool true, .bool false, .bool false, .bool false, .bool false], .bool true]) (by simp [results, Tryz.results59, go_sem]) rfl ⟨rfl, Below.one _ _⟩
theorem parts_15 (w : World) : Calls Tryz.prog 59 #[.int .i64 15] w fun e w' => e = .returned (.tuple #[.agg #[.bool false, .bool false, .bool false, .bool false, .bool true, .bool false], .bool true]) ∧ Below w.heap.size w w' := by
 go_enter Tryz.func59, Tryz.ntmps59
 go_wp2_with fail
 exact bodyPost_ret (v := .tuple #[.agg #[.bool false, .bool false, .bool false, .bool false, .bool true, .bool false], .bool true]) (by simp [results, Tryz.results59, go_sem]) rfl ⟨rfl, Below.one _ _⟩
theorem parts_16 (w : World) : Calls Tryz.prog 59 #[.int .i64 16] w fun e w' => e = .returned (.tuple #[.agg #[.bool false, .bool true, .bool false, .bool false, .bool false, .bool true], .bool true]) ∧ Below w.heap.size w w' := by
 go_enter Tryz.func59, Tryz.ntmps59
 go_wp2_with fail
 exact bodyPost_ret (v := .tuple #[.agg #[.bool false, .bool true, .bool false, .bool false, .bool false, .bool true], .bool true]) (by simp [results, Tryz.results59, go_sem]) rfl ⟨rfl, Below.one _ _⟩
theorem parts_17 (w : World) : Calls Tryz.prog 59 #[.int .i64 17] w fun e w' => e = .returned (.tuple #[.agg #[.bool true, .bool true, .bool false, .bool true, .bool false, .bool false], .bool true]) ∧ Below w.heap.size w w' := by
 go_enter Tryz.func59, Tryz.ntmps59
 go_wp2_with fail
 exact bodyPost_ret (v := .tuple #[.agg #[.bool true, .bool true, .bool false, .bool true, .bool false, .bool false], .bool true]) (by simp [results, Tryz.results59, go_sem]) rfl ⟨rfl, Below.one _ _⟩
theorem parts_18 (w : World) : Calls Tryz.prog 59 #[.int .i64 18] w fun e w' => e = .returned (.tuple #[.agg #[.bool true, .bool false, .bool true, .bool true, .bool true, .bool false], .bool true]) ∧ Below w.heap.size w w' := by
 go_enter Tryz.func59, Tryz.ntmps59
 go_wp2_with fail
 exact bodyPost_ret (v := .tuple #[.agg #[.bool true, .bool false, .bool true, .bool true, .bool true, .bool false], .bool true]) (by simp [results, Tryz.results59, go_sem]) rfl ⟨rfl, Below.one _ _⟩
theorem parts_19 (w : World) : Calls Tryz.prog 59 #[.int .i64 19] w fun e w' => e = .returned (.tuple #[.agg #[.bool false, .bool true, .bool false, .bool true, .bool false, .bool false], .bool true]) ∧ Below w.heap.size w w' := by
 go_enter Tryz.func59, Tryz.ntmps59
 go_wp2_with fail
 exact bodyPost_ret (v := .tuple #[.agg #[.bool false, .bool true, .bool false, .bool true, .bool false, .bool false], .bool true]) (by simp [results, Tryz.results59, go_sem]) rfl ⟨rfl, Below.one _ _⟩
theorem parts_20 (w : World) : Calls Tryz.prog 59 #[.int .i64 20] w fun e w' => e = .returned (.tuple #[.agg #[.bool false, .bool false, .bool true, .bool true, .bool true, .bool false], .bool true]) ∧ Below w.heap.size w w' := by
 go_enter Tryz.func59, Tryz.ntmps59
 go_wp2_with fail
 exact bodyPost_ret (v := .tuple #[.agg #[.bool false, .bool false, .bool true, .bool true, .bool true, .bool false], .bool true]) (by simp [results, Tryz.results59, go_sem]) rfl ⟨rfl, Below.one _ _⟩
theorem parts_21 (w : World) : Calls Tryz.prog 59 #[.int .i64 21] w fun e w' => e = .returned (.tuple #[.agg #[.bool false, .bool false, .bool false, .bool true, .bool true, .bool false], .bool true]) ∧ Below w.heap.size w w' := by
 go_enter Tryz.func59, Tryz.ntmps59
 go_wp2_with fail
 exact bodyPost_ret (v := .tuple #[.agg #[.bool false, .bool false, .bool false, .bool true, .bool true, .bool false], .bool true]) (by simp [results, Tryz.results59, go_sem]) rfl ⟨rfl, Below.one _ _⟩
theorem parts_22 (w : World) : Calls Tryz.prog 59 #[.int .i64 22] w fun e w' => e = .returned (.tuple #[.agg #[.bool false, .bool true, .bool false, .bool false, .bool false, .bool false], .bool true]) ∧ Below w.heap.size w w' := by
 go_enter Tryz.func59, Tryz.ntmps59
 go_wp2_with fail
 exact bodyPost_ret (v := .tuple #[.agg #[.bool false, .bool true, .bool false, .bool false, .bool false, .bool false], .bool true]) (by simp [results, Tryz.results59, go_sem]) rfl ⟨rfl, Below.one _ _⟩
theorem parts_no (n : Int) (h : n < 0 ∨ 22 < n) (w : World) : Calls Tryz.prog 59 #[.int .i64 n] w fun e w' => e = .returned (.tuple #[.agg #[.bool false, .bool false, .bool false, .bool false, .bool false, .bool false], .bool false]) ∧ Below w.heap.size w w' := by
 rcases h with h | h
 ·go_enter Tryz.func59, Tryz.ntmps59
  go_wp2_with fail
  exact bodyPost_ret (v := .tuple #[.agg #[.bool false, .bool false, .bool false, .bool false, .bool false, .bool false], .bool false]) (by simp [results, Tryz.results59, go_sem]) rfl ⟨rfl, Below.one _ _⟩
 ·go_enter Tryz.func59, Tryz.ntmps59
  go_wp2_with fail
  exact bodyPost_ret (v := .tuple #[.agg #[.bool false, .bool false, .bool false, .bool false, .bool false, .bool false], .bool false]) (by simp [results, Tryz.results59, go_sem]) rfl ⟨rfl, Below.one _ _⟩
end
section
open Go.RowKit
theorem bytes_ext {s s' : ByteArray} (h : s.toList = s'.toList) : s = s' := by
 apply ByteArray.ext; apply Array.ext'
 rw [← ByteArray.toList_eq, ← ByteArray.toList_eq]; exact h
theorem ralike_no {k n d k' n' d' : Int} {s s' : ByteArray} {l l' : List Dat} {r : Bool} (h : ((decide (k = k') && (decide (n = n') && (decide (d = d') && decide (s = s')))) && all2 Dat.alike l l') = r)
  (hno : ¬ (k = k' ∧ n = n' ∧ d = d' ∧ s = s' ∧ l.length = l'.length)) : false = r := by
 cases r with
 | false => rfl
 | true =>
  simp only [Bool.and_eq_true, decide_eq_true_eq] at h
  exact absurd ⟨h.1.1, h.1.2.1, h.1.2.2.1, h.1.2.2.2, all2_len h.2⟩ hno
theorem ralike_yes {k n d k' n' d' : Int} {s s' : ByteArray} {len len' : Nat} (hno : ¬ (k = k' ∧ n = n' ∧ d = d' ∧ s = s' ∧ len = len')) (h0 : k = k') (h1 : n = n') (h2 : d = d') (h3 : s.toList = s'.toList) (h4 : ((len : Int) != (len' : Int)) = false) : False := by
 refine hno ⟨h0, h1, h2, bytes_ext h3, ?_⟩
 have : (len : Int) = len' := by simpa using h4
 omega
theorem ralike_any : ∀ (x y : Dat) (v u : Value) (B : Nat) (w : World), RepD w B x v → RepD w B y u → B ≤ w.heap.size →
  Calls Tryz.prog 77 #[v, u] w fun e w' => e = .returned (.bool (Dat.alike x y)) ∧ Below w.heap.size w w' := by
 intro x
 induction x using Dat.ind with
 | h k n d s l ih =>
  intro y v u B w hv hu hB
  obtain ⟨k', n', d', s', l'⟩ := y
  obtain ⟨r, hr⟩ : ∃ r, Dat.alike (.mk k n d s l) (.mk k' n' d' s' l') = r := ⟨_, rfl⟩
  rw [hr]
  rw [Dat.alike, alikeL_all2] at hr
  have HR := Lib.hid hr
  obtain ⟨sl, rfl, _, _, _, _, hs⟩ := hv.open
  obtain ⟨sm, rfl, _, _, _, _, hs'⟩ := hu.open
  obtain ⟨o, len, cap, rfl, hl, hcap, hmax, hc⟩ := hs
  obtain ⟨o', len', cap', rfl, hl', hcap', hmax', hc'⟩ := hs'
  have HL := Lib.hid hl
  have HL' := Lib.hid hl'
  have HC := Lib.hid hc
  have HC' := Lib.hid hc'
  have IH := Lib.hid ih
  clear ih hv hu hl hl' hc hc'
  have HK := Lib.hid (fun X Y => ((Below.refl w.heap.size w).alloc (Nat.le_refl _) X).alloc (by simp) Y)
  by_cases hall : k = k' ∧ n = n' ∧ d = d' ∧ s = s' ∧ len = len'
  ·obtain ⟨rfl, rfl, rfl, rfl, rfl⟩ := hall
   have HQ := Lib.hid (show all2 Dat.alike l l' = r by rw [← hr]; simp)
   clear hr HR
   have HT := Lib.hid (show Two w #[.int .i64 k, .int .i64 n, .int .i64 d, .string s, .slice o len cap] 60 #[.int .i64 k, .int .i64 n, .int .i64 d, .string s, .slice o' len cap'] _ from Below.refl _ _)
   go_enter Tryz.func77, Tryz.ntmps77
   go_wp2_with fail
   go_loopg [5] len (fun g i wr => ∃ j : Nat, g = len - j ∧ j ≤ len ∧ i = .int .i64 j ∧ (∀ (q : Nat) (x y : Dat), q < j → l[q]? = some x → l'[q]? = some y → Dat.alike x y = true) ∧ Two w #[.int .i64 k, .int .i64 n, .int .i64 d, .string s, .slice o len cap] 60 #[.int .i64 k, .int .i64 n, .int .i64 d, .string s, .slice o' len cap'] wr)
   case atStart => exact ⟨0, rfl, by omega, rfl, fun q x y h => absurd h (by omega), HT.out⟩
   case round =>
    obtain ⟨j, rfl, hj, rfl, hq, ht⟩ := hrel
    have HQ2 := Lib.hid hq
    have HTW := Lib.hid ht
    have c4 := ht.cell 4 (v := .slice o len cap) rfl
    have d4 := ht.cell2 4 (v := .slice o' len cap') rfl
    have hb : Below w.heap.size w wr := (HK.out _ _).trans (Below.mono ht (by omega))
    have HB := Lib.hid hb
    have hsz := ht.size
    clear hq ht hb
    by_cases hjl : j < len
    ·obtain ⟨x, hx⟩ : ∃ x, l[j]? = some x := ⟨_, List.getElem?_eq_getElem (by rw [← HL.out]; exact hjl)⟩
     obtain ⟨y, hy⟩ : ∃ y, l'[j]? = some y := ⟨_, List.getElem?_eq_getElem (by rw [← HL'.out]; exact hjl)⟩
     obtain ⟨b1, off1, k1, n1, d1, s1, l1, o1, len1, cap1, ho1, hx1, e0, e1, e2, e3, e4, er⟩ := part_at2 HC.out (HB.out.mono hB) hx
     obtain ⟨b2, off2, k2, n2, d2, s2, l2, o2, len2, cap2, ho2, hx2, f0, f1, f2, f3, f4, fr⟩ := part_at2 HC'.out (HB.out.mono hB) hy
     subst ho1 ho2 hx1 hx2
     have ER := Lib.hid er
     have FR := Lib.hid fr
     have HX := Lib.hid hx
     have HY := Lib.hid hy
     have hl1 := cell_lt e0
     have hl2 := cell_lt f0
     have hlb1 := cell_lt c4
     have hlb2 := cell_lt d4
     obtain ⟨q, hq⟩ : ∃ q, Dat.alike (.mk k1 n1 d1 s1 l1) (.mk k2 n2 d2 s2 l2) = q := ⟨_, rfl⟩
     have HQQ := Lib.hid hq
     have HD := Lib.hid ((Below.refl wr.heap.size wr).drew)
     clear hx hy er fr hq
     go_wp2_with fail
     refine wp_region_quiet_class (Below wr.heap.size wr) 11 (by kernel_rfl) (by kernel_rfl) HD.out ?_
     intro T _ W HW HW2
     have g4 : ∀ t, (W t).cell? ⟨w.heap.size, 4, none⟩ = some (.slice (some ⟨b1, off1, none⟩) len cap) := fun t => ((HW t).cell (p := ⟨w.heap.size, 4, none⟩) hlb1).trans c4
     have h4 : ∀ t, (W t).cell? ⟨w.heap.size + 1, 4, none⟩ = some (.slice (some ⟨b2, off2, none⟩) len cap') := fun t => ((HW t).cell (p := ⟨w.heap.size + 1, 4, none⟩) hlb2).trans d4
     have g0 : ∀ t, (W t).cell? _ = _ := fun t => ((HW t).cell (p := ⟨b1, off1 + j * 5, none⟩) hl1).trans e0
     have g1 : ∀ t, (W t).cell? _ = _ := fun t => ((HW t).cell (p := ⟨b1, off1 + j * 5 + 1, none⟩) hl1).trans e1
     have g2 : ∀ t, (W t).cell? _ = _ := fun t => ((HW t).cell (p := ⟨b1, off1 + j * 5 + 2, none⟩) hl1).trans e2
     have g3 : ∀ t, (W t).cell? _ = _ := fun t => ((HW t).cell (p := ⟨b1, off1 + j * 5 + 3, none⟩) hl1).trans e3
     have g5 : ∀ t, (W t).cell? _ = _ := fun t => ((HW t).cell (p := ⟨b1, off1 + j * 5 + 4, none⟩) hl1).trans e4
     have j0 : ∀ t, (W t).cell? _ = _ := fun t => ((HW t).cell (p := ⟨b2, off2 + j * 5, none⟩) hl2).trans f0
     have j1 : ∀ t, (W t).cell? _ = _ := fun t => ((HW t).cell (p := ⟨b2, off2 + j * 5 + 1, none⟩) hl2).trans f1
     have j2 : ∀ t, (W t).cell? _ = _ := fun t => ((HW t).cell (p := ⟨b2, off2 + j * 5 + 2, none⟩) hl2).trans f2
     have j3 : ∀ t, (W t).cell? _ = _ := fun t => ((HW t).cell (p := ⟨b2, off2 + j * 5 + 3, none⟩) hl2).trans f3
     have j5 : ∀ t, (W t).cell? _ = _ := fun t => ((HW t).cell (p := ⟨b2, off2 + j * 5 + 4, none⟩) hl2).trans f4
     have hC : ∀ t, Calls Tryz.prog 77 #[.agg #[.int .i64 k1, .int .i64 n1, .int .i64 d1, .string s1, .slice o1 len1 cap1], .agg #[.int .i64 k2, .int .i64 n2, .int .i64 d2, .string s2, .slice o2 len2 cap2]] (W t) fun e w' => e = .returned (.bool q) ∧ ∃ t', w' = W t' := fun t => by
      have := IH.out (.mk k1 n1 d1 s1 l1) (List.mem_of_getElem? HX.out) (.mk k2 n2 d2 s2 l2) _ _ B (W t) (ER.out.kept (Below.mono (HW t) (by omega))) (FR.out.kept (Below.mono (HW t) (by omega))) (by have := (HW t).size; omega)
      rw [HQQ.out] at this
      exact this.mono fun e w' h => ⟨h.1, HW2 _ (Below.next (HW t) h.2)⟩
     have HCC := Lib.hid hC
     have HWH := Lib.hid HW
     clear HW HW2 hC
     simp only [List.take_succ_cons, List.take_zero, List.drop_succ_cons, List.drop_zero]
     repeat (go_big_quiet_step (first | (go_at_call 77; exact HCC.out _) | fail))
     refine wpQuiet_nil ?_
     intro t
     cases q with
     | true =>
      go_wp2_with fail
      go_roundg (len - (j + 1))
      case measure => omega
      case rel =>
       refine ⟨j + 1, rfl, by omega, by go_num, ?_, Two.next HTW.out (HWH.out t)⟩
       intro p x y hp hx hy
       by_cases hpj : p < j
       ·exact HQ2.out p x y hpj hx hy
       ·obtain rfl : p = j := by omega
        obtain rfl := Option.some.inj (hx.symm.trans HX.out)
        obtain rfl := Option.some.inj (hy.symm.trans HY.out)
        exact HQQ.out
     | false =>
      have HF := Lib.hid (show r = false by rw [← HQ.out]; exact all2_false HX.out HY.out HQQ.out)
      go_wp2_with fail
      go_ret
      exact ⟨ret_bool HF.out.symm, Below.next HB.out (HWH.out t)⟩
    ·obtain rfl : j = len := by omega
     have HF := Lib.hid (show r = true by
      rw [← HQ.out]
      refine all2_all (by rw [← HL.out, ← HL'.out]) fun i x y hx hy => HQ2.out i x y ?_ hx hy
      have := (List.getElem?_eq_some_iff.1 hx).1
      rw [HL.out]; exact this)
     go_wp2_with fail
     go_ret
     exact ⟨ret_bool HF.out.symm, HB.out⟩
  ·have hno : ¬ (k = k' ∧ n = n' ∧ d = d' ∧ s = s' ∧ l.length = l'.length) := by rw [← HL.out, ← HL'.out]; exact hall
   have HF := Lib.hid (ralike_no HR.out hno)
   have HNO := Lib.hid hall
   clear hno hall hr
   go_enter Tryz.func77, Tryz.ntmps77
   go_wp2_with fail
   all_goals first
    | (go_ret; exact ⟨ret_bool HF.out, HK.out _ _⟩)
    | exact (ralike_yes HNO.out (by assumption) (by assumption) (by assumption) (by assumption) (by assumption)).elim
    | fail
theorem ralike_to (x y : Dat) (v u : Value) (B : Nat) (w : World) (r : Bool) (hr : Dat.alike x y = r) (hv : RepD w B x v) (hu : RepD w B y u) (hB : B ≤ w.heap.size) :
  Calls Tryz.prog 77 #[v, u] w fun e w' => e = .returned (.bool r) ∧ Below w.heap.size w w' := by
 rw [← hr]; exact ralike_any x y v u B w hv hu hB
end
section
open Go Go.RowKit
structure Turned (S : Nat → Prop) (A B : World) : Prop where
 os : B.os = A.os
 tape : B.tape = A.tape
 output : B.output = A.output
 size : A.heap.size ≤ B.heap.size
 block : ∀ b, b < A.heap.size → ¬ S b → B.heap[b]? = A.heap[b]?
theorem Turned.refl (S : Nat → Prop) (A : World) : Turned S A A := ⟨rfl, rfl, rfl, Nat.le_refl _, fun _ _ _ => rfl⟩
theorem Turned.trans {S S' : Nat → Prop} {A B C : World} (h : Turned S A B) (h' : Turned S' B C) (hS : ∀ b, b < A.heap.size → S' b → S b) : Turned S A C :=
 ⟨h'.os.trans h.os, h'.tape.trans h.tape, h'.output.trans h.output, Nat.le_trans h.size h'.size, fun b hb hn => (h'.block b (Nat.lt_of_lt_of_le hb h.size) (fun hs => hn (hS b hb hs))).trans (h.block b hb hn)⟩
theorem Turned.next {S : Nat → Prop} {A B C : World} (h : Turned S A B) (h' : Turned S B C) : Turned S A C := h.trans h' fun _ _ h => h
theorem Turned.wider {S S' : Nat → Prop} {A B : World} (h : Turned S A B) (hS : ∀ b, b < A.heap.size → S b → S' b) : Turned S' A B := ⟨h.os, h.tape, h.output, h.size, fun b hb hn => h.block b hb fun hs => hn (hS b hb hs)⟩
theorem Turned.of_below {S : Nat → Prop} {A B : World} (h : Below A.heap.size A B) : Turned S A B := ⟨h.os, h.tape, h.output, h.size, fun b hb _ => h.block b hb⟩
theorem Turned.below {S : Nat → Prop} {A B : World} (h : Turned S A B) {b0 : Nat} (hS : ∀ b, S b → b0 ≤ b) (hb0 : b0 ≤ A.heap.size) : Below b0 A B :=
 ⟨h.os, h.tape, h.output, h.size, fun b hb => h.block b (Nat.lt_of_lt_of_le hb hb0) fun hs => by have := hS b hs; omega⟩
theorem Turned.set {S : Nat → Prop} (A : World) (a : Addr) (v : Value) (ha : S a.block) : Turned S A (A.setCell a v) := ⟨rfl, rfl, rfl, by rw [World.size_setCell]; exact Nat.le_refl _, fun b _ hn => setCell_heap_other A a v fun e => hn (e ▸ ha)⟩
theorem Turned.grown {S : Nat → Prop} {A B : World} {row : Option Nat} (h : A.grownBy B row) (hr : ∀ b, row = some b → S b) : Turned S A B := ⟨h.os, h.tape, h.output, h.size, fun b hb hn => h.block b hb fun e => hn (hr b e.symm)⟩
theorem Turned.box {S : Nat → Prop} {A B : World} (h : Turned S A B) {b : Nat} {t : TypeId} {cs : List Value} (hb : BoxL A b t cs) (hn : ¬ S b) : BoxL B b t cs := (h.block b hb.lt hn).trans hb
end
section
open Go Go.RowKit Go.Deep Go.ChangeShapes Go.WideShapes Go.ChangeAt
section
variable {H : Type} {enc : TypeId × Value → H}
theorem slC_of_trodF {α : Type} {w : World} {ts te : TypeId} {size bs : Nat} (hu : Tryz.prog.underlying ts = some (.slice te)) (hcs : Tryz.prog.cellsOf te = size) (hbs : Tryz.prog.bytesOf te = bs) (hpos : 0 < size) (hbp : 0 < bs) {R : α → List Value → Prop}
  (fuel : Nat) (hel : ∀ n' cs' y, n' < fuel → DataW.trod enc Tryz.prog w 0 (fun _ => true) true n' te cs' = some y → (∀ n ∈ y.1.weights Tryz.prog te, n ≤ reachBytes) → ∃ x, R x cs') (c4 : Value) (x4 : DataW H × List MemPlace) (g4 : DataW.trod enc Tryz.prog w 0 (fun _ => true) true fuel ts [c4] = some x4) (w4 : ∀ n ∈ x4.1.weights Tryz.prog ts, n ≤ reachBytes) : ∃ l : List α, SlC w w.heap.size size R l c4 := by
 rcases DataW.trod_slice hu g4 with ⟨e4, _⟩ | ⟨a, len, cap, elems, rest, n', rfl, e4, hx4, _, hle, _, hel2, hget4, hsp, _⟩
 ·have f4 : c4 = .slice none 0 0 := by simpa using e4
  subst f4
  exact ⟨[], none, 0, 0, rfl, rfl, by omega, by omega, rfl, rfl⟩
 ·have f4 : c4 = .slice (some a) len cap := by simpa using e4
  subst f4 hx4
  have hrest := (hsp rfl).1
  have hcap : cap ≤ 9223372036854775807 := by
   have := w4 ((elems.length + rest.length) * bs) (by simp [DataW.weights, hu, hbs])
   have h9 : (elems.length + rest.length) * bs ≤ 140737488351232 := this
   have h10 : (elems.length + rest.length) * 1 ≤ (elems.length + rest.length) * bs := Nat.mul_le_mul_left _ hbp
   omega
  by_cases h0 : len = 0
  ·subst h0
   exact ⟨[], some a, 0, cap, rfl, rfl, by omega, hcap, fun h => absurd rfl h, fun i x hx => by simp at hx⟩
  have hat : ∀ i (hi : i < len), ∃ cs', w.cells? 0 (a.add (i * size)) size = some cs' ∧ DataW.trod enc Tryz.prog w 0 (fun _ => true) true n' te cs' = some (elems[i]'(by omega)) := by
   intro i hi
   have hb := hget4 i hi
   rw [hcs, List.getElem?_eq_getElem (by omega)] at hb
   exact Option.bind_eq_some_iff.1 hb
  obtain ⟨hspot, hblk⟩ : a.spot = none ∧ a.block < w.heap.size := by
   obtain ⟨cs', hc1, _⟩ := hat 0 (by omega)
   obtain ⟨_, hl5, hcs⟩ := World.cells?_some hc1
   have h00 := hcs 0 (by omega)
   rw [List.getElem?_eq_getElem (by omega)] at h00
   have := cell_spot h00
   simpa [Addr.add] using this
  have hcell : ∀ i, i < len → ∃ x : α, ∃ cs : List Value, cs.length = size ∧ (∀ j u, cs[j]? = some u → w.cell? ⟨a.block, a.off + i * size + j, none⟩ = some u) ∧ R x cs := by
   intro i hi
   obtain ⟨cs', hc1, hc2⟩ := hat i hi
   obtain ⟨_, hl5, hcs⟩ := World.cells?_some hc1
   rw [add_none hspot] at hcs
   obtain ⟨x, hx⟩ := hel n' _ _ (by omega) hc2 (fun q hq => w4 q (by
     simp only [DataW.weights, hu, List.mem_cons, List.mem_append]
     refine Or.inr (Or.inl (weightsAll_mem (d := (elems[i]'(by omega)).1) ?_ q hq))
     exact List.mem_map_of_mem (List.getElem_mem _)))
   refine ⟨x, cs', hl5, fun j u hj => ?_, hx⟩
   have hjl : j < size := by have := (List.getElem?_eq_some_iff.1 hj).1; omega
   have := hcs j hjl
   rw [add_none rfl] at this
   rw [← hj]; exact this
  obtain ⟨l, hl, hP⟩ := list_choice hcell
  exact ⟨l, some a, len, cap, rfl, hl.symm, hle, hcap, fun _ => ⟨hspot, hblk⟩, fun i x hx => hP i x hx⟩
end
end
end Go.Proofs.YtigkhmppnnljiaaGreatDoor

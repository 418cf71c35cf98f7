/-
  What the proofs lean on: UntRep, Awakes.
-/
import Derived.Lib.FrozenHead
import Derived.Lib.FrozenHead2
import Derived.Lib.OthersKept
import Derived.Laws.Externs
import Derived.Deep.LoopGhost
import Derived.Laws.AppendOwn
import Derived.Laws.OwnMore
import Derived.Test.YtigkhmppnnljiaaGreatDoorLsoA02
import Derived.Test.YtigkhmppnnljiaaGreatDoorLsoA03
import Derived.Test.YtigkhmppnnljiaaGreatDoorLsoA04
import Derived.Test.YtigkhmppnnljiaaGreatDoorLsoA05
import Derived.Test.YtigkhmppnnljiaaGreatDoorLsoA07
import Derived.Test.YtigkhmppnnljiaaGreatDoorLsoA09
set_option maxRecDepth 100000
set_option maxHeartbeats 16000000
namespace Go.Proofs.YtigkhmppnnljiaaGreatDoor
section
open Go.RowKit Go.Deep Go.ChangeShapes Go.WideShapes Go.ChangeAt
def InsR (w : World) (B : Nat) (x : Ins) (cs : List Value) : Prop :=
 ∃ sl, cs = [.int .i64 x.op, .int .i64 x.d, .int .i64 x.a, .int .i64 x.b, sl] ∧ (-9223372036854775808 ≤ x.op ∧ x.op ≤ 9223372036854775807) ∧ (-9223372036854775808 ≤ x.d ∧ x.d ≤ 9223372036854775807) ∧
  (-9223372036854775808 ≤ x.a ∧ x.a ≤ 9223372036854775807) ∧ (-9223372036854775808 ≤ x.b ∧ x.b ≤ 9223372036854775807) ∧ SlC w B 1 IntR x.l sl
def IntsR (w : World) (B : Nat) (l : List Int) (cs : List Value) : Prop := ∃ sl, cs = [sl] ∧ SlC w B 1 IntR l sl
def ProcR (w : World) (B : Nat) (p : Proc) (cs : List Value) : Prop :=
 ∃ sl al, cs = [.int .i64 p.args, .bool p.rest, .int .i64 p.regs, sl, al] ∧ (-9223372036854775808 ≤ p.args ∧ p.args ≤ 9223372036854775807) ∧ (-9223372036854775808 ≤ p.regs ∧ p.regs ≤ 9223372036854775807) ∧
  SlC w B 5 (InsR w B) p.code sl ∧ SlC w B 1 (IntsR w B) p.alive al
def UntR (w : World) (B : Nat) (u : Unt) (v : Value) : Prop := ∃ c p, v = .agg #[c, p] ∧ RepS w B u.consts c ∧ SlC w B 5 (ProcR w B) u.procs p
theorem InsR.kept {w w' : World} {B : Nat} {x : Ins} {cs : List Value} (h : InsR w B x cs) (hb : Below B w w') : InsR w' B x cs := by
 obtain ⟨sl, h0, h1, h2, h3, h4, h5⟩ := h
 exact ⟨sl, h0, h1, h2, h3, h4, h5.kept hb fun _ _ _ h => h⟩
theorem InsR.wider {w : World} {B B' : Nat} {x : Ins} {cs : List Value} (h : InsR w B x cs) (hB : B ≤ B') : InsR w B' x cs := by
 obtain ⟨sl, h0, h1, h2, h3, h4, h5⟩ := h
 exact ⟨sl, h0, h1, h2, h3, h4, h5.wider hB⟩
theorem IntsR.kept {w w' : World} {B : Nat} {l : List Int} {cs : List Value} (h : IntsR w B l cs) (hb : Below B w w') : IntsR w' B l cs := by
 obtain ⟨sl, h0, h1⟩ := h
 exact ⟨sl, h0, h1.kept hb fun _ _ _ h => h⟩
theorem IntsR.wider {w : World} {B B' : Nat} {l : List Int} {cs : List Value} (h : IntsR w B l cs) (hB : B ≤ B') : IntsR w B' l cs := by
 obtain ⟨sl, h0, h1⟩ := h
 exact ⟨sl, h0, h1.wider hB⟩
theorem SlC.imp {α : Type} {w : World} {B size : Nat} {R R' : α → List Value → Prop} {l : List α} {v : Value} (h : SlC w B size R l v) (hR : ∀ x ∈ l, ∀ cs, R x cs → R' x cs) : SlC w B size R' l v := h.kept (Below.refl _ _) hR
theorem codeR_kept {w w' : World} {B : Nat} {l : List Ins} {v : Value} (h : SlC w B 5 (InsR w B) l v) (hb : Below B w w') : SlC w' B 5 (InsR w' B) l v := h.kept hb fun _ _ _ h => h.kept hb
theorem codeR_wider {w : World} {B B' : Nat} {l : List Ins} {v : Value} (h : SlC w B 5 (InsR w B) l v) (hB : B ≤ B') : SlC w B' 5 (InsR w B') l v := (h.wider hB).imp fun _ _ _ h => h.wider hB
theorem ProcR.kept {w w' : World} {B : Nat} {x : Proc} {cs : List Value} (h : ProcR w B x cs) (hb : Below B w w') : ProcR w' B x cs := by
 obtain ⟨sl, al, h0, h1, h2, h3, h4⟩ := h
 exact ⟨sl, al, h0, h1, h2, codeR_kept h3 hb, h4.kept hb fun _ _ _ h => h.kept hb⟩
theorem ProcR.wider {w : World} {B B' : Nat} {x : Proc} {cs : List Value} (h : ProcR w B x cs) (hB : B ≤ B') : ProcR w B' x cs := by
 obtain ⟨sl, al, h0, h1, h2, h3, h4⟩ := h
 exact ⟨sl, al, h0, h1, h2, codeR_wider h3 hB, (h4.wider hB).imp fun _ _ _ h => h.wider hB⟩
theorem procsR_kept {w w' : World} {B : Nat} {l : List Proc} {v : Value} (h : SlC w B 5 (ProcR w B) l v) (hb : Below B w w') : SlC w' B 5 (ProcR w' B) l v := h.kept hb fun _ _ _ h => h.kept hb
theorem procsR_wider {w : World} {B B' : Nat} {l : List Proc} {v : Value} (h : SlC w B 5 (ProcR w B) l v) (hB : B ≤ B') : SlC w B' 5 (ProcR w B') l v := (h.wider hB).imp fun _ _ _ h => h.wider hB
theorem UntR.kept {w w' : World} {B : Nat} {u : Unt} {v : Value} (h : UntR w B u v) (hb : Below B w w') : UntR w' B u v := by
 obtain ⟨c, p, h0, h1, h2⟩ := h
 exact ⟨c, p, h0, h1.kept hb, procsR_kept h2 hb⟩
theorem UntR.wider {w : World} {B B' : Nat} {u : Unt} {v : Value} (h : UntR w B u v) (hB : B ≤ B') : UntR w B' u v := by
 obtain ⟨c, p, h0, h1, h2⟩ := h
 exact ⟨c, p, h0, h1.wider hB, procsR_wider h2 hB⟩
def CellsG {α : Type} (size : Nat) (R : α → List Value → Prop) : List α → List Value → Prop
 | [], xs => xs = []
 | x :: l, xs => ∃ cs r, xs = cs ++ r ∧ cs.length = size ∧ R x cs ∧ CellsG size R l r
theorem CellsG.mono {α : Type} {size : Nat} {R R' : α → List Value → Prop} : ∀ {l : List α} {xs : List Value}, CellsG size R l xs → (∀ x ∈ l, ∀ cs, R x cs → R' x cs) → CellsG size R' l xs
 | [], _, h, _ => h
 | x :: l, _, ⟨cs, r, he, hs, hx, hr⟩, hk => ⟨cs, r, he, hs, hk x (by simp) _ hx, hr.mono fun y hy => hk y (by simp [hy])⟩
theorem CellsG.snoc {α : Type} {size : Nat} {R : α → List Value → Prop} {x : α} {cs : List Value} (hs : cs.length = size) (hx : R x cs) : ∀ {l : List α} {xs : List Value}, CellsG size R l xs → CellsG size R (l ++ [x]) (xs ++ cs)
 | [], _, h => by rw [CellsG] at h; subst h; exact ⟨cs, [], by simp, hs, hx, rfl⟩
 | _ :: l, _, ⟨cs', r, he, hs', hx', hr⟩ => ⟨cs', r ++ cs, by rw [he, List.append_assoc], hs', hx', hr.snoc hs hx⟩
theorem CellsG.at {α : Type} {size : Nat} {R : α → List Value → Prop} : ∀ {l : List α} {xs : List Value} {i : Nat} {x : α}, CellsG size R l xs → l[i]? = some x → ∃ cs, cs.length = size ∧ R x cs ∧ ∀ j u, cs[j]? = some u → xs[i * size + j]? = some u
 | [], _, i, x, _, hx => by simp at hx
 | y :: l, xs, 0, x, ⟨cs, r, he, hs, hy, hr⟩, hx => by
  simp only [List.getElem?_cons_zero, Option.some.injEq] at hx
  subst hx
  refine ⟨cs, hs, hy, fun j u hj => ?_⟩
  have := (List.getElem?_eq_some_iff.1 hj).1
  rw [he, Nat.zero_mul, Nat.zero_add, List.getElem?_append_left this]
  exact hj
 | y :: l, xs, i + 1, x, ⟨cs, r, he, hs, hy, hr⟩, hx => by
  obtain ⟨cs', h1, h2, h3⟩ := hr.at (i := i) (by simpa using hx)
  refine ⟨cs', h1, h2, fun j u hj => ?_⟩
  rw [he, List.getElem?_append_right (by rw [hs, Nat.add_mul]; omega), hs, show (i + 1) * size + j - size = i * size + j by rw [Nat.add_mul]; omega]
  exact h3 j u hj
theorem slC_of_row {α : Type} {w : World} {base size : Nat} {te : TypeId} {R : α → List Value → Prop} {v : Value} {l : List α} {xs : List Value} (hown : w.ownsRow base te size v l.length xs) (hc : CellsG size R l xs) : SlC w w.heap.size size R l v := by
 rcases hown.2 with ⟨hv, h0⟩ | ⟨g, cap, cur, hv, hb, hg, hle, hm, hsz, htk⟩
 ·have : l = [] := List.eq_nil_of_length_eq_zero h0
  subst this
  exact ⟨none, 0, 0, hv, rfl, by omega, by omega, rfl, rfl⟩
 ·have hlt := (Array.getElem?_eq_some_iff.1 hg).1
  refine ⟨some ⟨g, 0, none⟩, l.length, cap, hv, rfl, hle, by unfold maxLen at hm; omega, fun _ => ⟨rfl, hlt⟩, ?_⟩
  intro i x hx
  obtain ⟨cs, h1, h2, h3⟩ := hc.at hx
  refine ⟨cs, h1, fun j u hj => ?_, h2⟩
  have := h3 j u hj
  rw [← htk, List.getElem?_take] at this
  split at this
  ·unfold World.cell?
   simp only [hg, Nat.zero_add]
   simpa using this
  ·cases this
theorem new_cells (w : World) (cs : List Value) (t : TypeId) : ∀ (j : Nat) (u : Value), cs[j]? = some u → (w.alloc (.cells cs.toArray t)).cell? ((⟨w.heap.size, 0, none⟩ : Addr).add j) = some u := by
 intro j u hj
 have e : (⟨w.heap.size, 0, none⟩ : Addr).add j = ⟨w.heap.size, j, none⟩ := by unfold Addr.add; split <;> simp_all
 rw [e]
 exact box_cell w _ t j (by simpa using hj)
section
variable {H : Type} {enc : TypeId × Value → H}
theorem ints_of_trod {w : World} (fuel : Nat) (c4 : Value) (x4 : DataW H × List MemPlace) (g4 : DataW.trod enc Tryz.prog w 0 (fun _ => true) true fuel 32 [c4] = some x4) (w4 : ∀ n ∈ x4.1.weights Tryz.prog 32, n ≤ reachBytes) : ∃ l : List Int, SlC w w.heap.size 1 IntR l c4 :=
 slC_of_trod (te := 3) (bs := 8) Tryz.underlying32 (by kernel_rfl) (by kernel_rfl) (by omega) (by omega) (fun n' cs' y hy _ => by
  obtain ⟨k, e0, _, w0⟩ := DataW.trod_int Tryz.underlying3 hy
  exact ⟨k, e0, bd_i64 w0⟩) fuel c4 x4 g4 w4
theorem insR_of_trod {w : World} (n' : Nat) (cs : List Value) (y : DataW H × List MemPlace) (h : DataW.trod enc Tryz.prog w 0 (fun _ => true) true n' 34 cs = some y) (hw : ∀ n ∈ y.1.weights Tryz.prog 34, n ≤ reachBytes) : ∃ x, InsR w w.heap.size x cs := by
 obtain ⟨xs, n, rfl, rfl, hlen, hxs, hget⟩ := DataW.trod_struct Tryz.underlying34 h
 rw [show Tryz.prog.cellsOf 34 = 5 by kernel_rfl] at hlen
 match cs, hlen with
 | [c0, c1, c2, c3, c4], _ =>
  have g0 : DataW.trod enc Tryz.prog w 0 (fun _ => true) true n 3 (([c0, c1, c2, c3, c4].drop 0).take (Tryz.prog.cellsOf 3)) = xs[0]? := hget 0 _ rfl
  have g1 : DataW.trod enc Tryz.prog w 0 (fun _ => true) true n 3 (([c0, c1, c2, c3, c4].drop 1).take (Tryz.prog.cellsOf 3)) = xs[1]? := hget 1 _ rfl
  have g2 : DataW.trod enc Tryz.prog w 0 (fun _ => true) true n 3 (([c0, c1, c2, c3, c4].drop 2).take (Tryz.prog.cellsOf 3)) = xs[2]? := hget 2 _ rfl
  have g3 : DataW.trod enc Tryz.prog w 0 (fun _ => true) true n 3 (([c0, c1, c2, c3, c4].drop 3).take (Tryz.prog.cellsOf 3)) = xs[3]? := hget 3 _ rfl
  have g4 : DataW.trod enc Tryz.prog w 0 (fun _ => true) true n 32 (([c0, c1, c2, c3, c4].drop 4).take (Tryz.prog.cellsOf 32)) = xs[4]? := hget 4 _ rfl
  rw [cells_int] at g0 g1 g2 g3
  rw [show Tryz.prog.cellsOf 32 = 1 by kernel_rfl] at g4
  have hx5 : xs.length = 5 := hxs
  match xs, hx5 with
  | [x0, x1, x2, x3, x4], _ =>
   obtain ⟨k, e0, _, w0⟩ := DataW.trod_int Tryz.underlying3 (show _ = some x0 from g0)
   obtain ⟨m, e1, _, w1⟩ := DataW.trod_int Tryz.underlying3 (show _ = some x1 from g1)
   obtain ⟨d, e2, _, w2⟩ := DataW.trod_int Tryz.underlying3 (show _ = some x2 from g2)
   obtain ⟨s, e3, _, w3⟩ := DataW.trod_int Tryz.underlying3 (show _ = some x3 from g3)
   have f0 : c0 = .int .i64 k := by simpa using e0
   have f1 : c1 = .int .i64 m := by simpa using e1
   have f2 : c2 = .int .i64 d := by simpa using e2
   have f3 : c3 = .int .i64 s := by simpa using e3
   subst f0 f1 f2 f3
   have we : ∀ (i : Nat) (t : TypeId) (z : DataW H), [3, 3, 3, 3, 32][i]? = some t → [x0.1, x1.1, x2.1, x3.1, x4.1][i]? = some z → ∀ n ∈ z.weights Tryz.prog t, n ≤ reachBytes := by
    intro i t z ht hz q hq
    refine hw q ?_
    show q ∈ DataW.weights Tryz.prog 34 (.agg _)
    simp only [DataW.weights, Tryz.underlying34]
    exact weightsEach_mem i ht hz q hq
   obtain ⟨l, hl⟩ := ints_of_trod n c4 x4 (show _ = some x4 from g4) (we 4 32 _ rfl rfl)
   exact ⟨⟨k, m, d, s, l⟩, c4, rfl, bd_i64 w0, bd_i64 w1, bd_i64 w2, bd_i64 w3, hl⟩
theorem procR_of_trod {w : World} (n' : Nat) (cs : List Value) (y : DataW H × List MemPlace) (h : DataW.trod enc Tryz.prog w 0 (fun _ => true) true n' 31 cs = some y) (hw : ∀ n ∈ y.1.weights Tryz.prog 31, n ≤ reachBytes) : ∃ x, ProcR w w.heap.size x cs := by
 obtain ⟨xs, n, rfl, rfl, hlen, hxs, hget⟩ := DataW.trod_struct Tryz.underlying31 h
 rw [show Tryz.prog.cellsOf 31 = 5 by kernel_rfl] at hlen
 match cs, hlen with
 | [c0, c1, c2, c3, c4], _ =>
  have g0 : DataW.trod enc Tryz.prog w 0 (fun _ => true) true n 3 (([c0, c1, c2, c3, c4].drop 0).take (Tryz.prog.cellsOf 3)) = xs[0]? := hget 0 _ rfl
  have g1 : DataW.trod enc Tryz.prog w 0 (fun _ => true) true n 4 (([c0, c1, c2, c3, c4].drop 1).take (Tryz.prog.cellsOf 4)) = xs[1]? := hget 1 _ rfl
  have g2 : DataW.trod enc Tryz.prog w 0 (fun _ => true) true n 3 (([c0, c1, c2, c3, c4].drop 2).take (Tryz.prog.cellsOf 3)) = xs[2]? := hget 2 _ rfl
  have g3 : DataW.trod enc Tryz.prog w 0 (fun _ => true) true n 28 (([c0, c1, c2, c3, c4].drop 3).take (Tryz.prog.cellsOf 28)) = xs[3]? := hget 3 _ rfl
  have g4 : DataW.trod enc Tryz.prog w 0 (fun _ => true) true n 29 (([c0, c1, c2, c3, c4].drop 4).take (Tryz.prog.cellsOf 29)) = xs[4]? := hget 4 _ rfl
  rw [cells_int] at g0 g2
  rw [show Tryz.prog.cellsOf 4 = 1 by kernel_rfl] at g1
  rw [show Tryz.prog.cellsOf 28 = 1 by kernel_rfl] at g3
  rw [show Tryz.prog.cellsOf 29 = 1 by kernel_rfl] at g4
  have hx5 : xs.length = 5 := hxs
  match xs, hx5 with
  | [x0, x1, x2, x3, x4], _ =>
   obtain ⟨k, e0, _, w0⟩ := DataW.trod_int Tryz.underlying3 (show _ = some x0 from g0)
   obtain ⟨b, e1, _⟩ := DataW.trod_bool Tryz.underlying4 (show _ = some x1 from g1)
   obtain ⟨d, e2, _, w2⟩ := DataW.trod_int Tryz.underlying3 (show _ = some x2 from g2)
   have f0 : c0 = .int .i64 k := by simpa using e0
   have f1 : c1 = .bool b := by simpa using e1
   have f2 : c2 = .int .i64 d := by simpa using e2
   subst f0 f1 f2
   have we : ∀ (i : Nat) (t : TypeId) (z : DataW H), [3, 4, 3, 28, 29][i]? = some t → [x0.1, x1.1, x2.1, x3.1, x4.1][i]? = some z → ∀ n ∈ z.weights Tryz.prog t, n ≤ reachBytes := by
    intro i t z ht hz q hq
    refine hw q ?_
    show q ∈ DataW.weights Tryz.prog 31 (.agg _)
    simp only [DataW.weights, Tryz.underlying31]
    exact weightsEach_mem i ht hz q hq
   obtain ⟨l, hl⟩ := slC_of_trod (te := 34) (size := 5) (bs := 56) Tryz.underlying28 (by kernel_rfl) (by kernel_rfl) (by omega) (by omega) (R := InsR w w.heap.size) (fun n' cs' y hy hw => insR_of_trod n' cs' y hy hw) n c3 x3 (show _ = some x3 from g3) (we 3 28 _ rfl rfl)
   obtain ⟨l2, hl2⟩ := slC_of_trod (te := 32) (size := 1) (bs := 24) Tryz.underlying29 (by kernel_rfl) (by kernel_rfl) (by omega) (by omega) (R := IntsR w w.heap.size) (fun n' cs' y hy hw => by
    obtain ⟨v, rfl⟩ : ∃ v, cs' = [v] := by
     rcases DataW.trod_slice Tryz.underlying32 hy with ⟨e4, _⟩ | ⟨a, len, cap, elems, rest, n', rfl, e4, _⟩
     ·exact ⟨_, e4⟩
     ·exact ⟨_, e4⟩
    obtain ⟨l, hl⟩ := ints_of_trod n' v y hy hw
    exact ⟨l, v, rfl, hl⟩) n c4 x4 (show _ = some x4 from g4) (we 4 29 _ rfl rfl)
   exact ⟨⟨k, b, d, l, l2⟩, c3, c4, rfl, bd_i64 w0, bd_i64 w2, hl, hl2⟩
theorem open_unit {W : World} {r : Reach} {b0 : Nat} {v : Value} {d : DataW H} {ps : List MemPlace} (hval : Value.okWide Tryz.prog W r b0 25 v) (hd : DataW.Trod enc Tryz.prog W 0 (fun _ => true) true 25 v d ps) (hw : ∀ n ∈ d.weights Tryz.prog 25, n ≤ reachBytes) : ∃ u, UntR W W.heap.size u v := by
 unfold Value.okWide at hval
 rw [Tryz.underlying25] at hval
 obtain ⟨⟨cs⟩, rfl, _⟩ := hval
 obtain ⟨fuel, hf⟩ := hd
 have hf' : DataW.trod enc Tryz.prog W 0 (fun _ => true) true fuel 25 cs = some (d, ps) := by simpa [Value.cells] using hf
 obtain ⟨xs, n, rfl, hd2, hlen, hxs, hget⟩ := DataW.trod_struct Tryz.underlying25 hf'
 obtain rfl : d = _ := congrArg Prod.fst hd2
 rw [show Tryz.prog.cellsOf 25 = 2 by kernel_rfl] at hlen
 match cs, hlen with
 | [c0, c1], _ =>
  have g0 : DataW.trod enc Tryz.prog W 0 (fun _ => true) true n 22 (([c0, c1].drop 0).take (Tryz.prog.cellsOf 22)) = xs[0]? := hget 0 _ rfl
  have g1 : DataW.trod enc Tryz.prog W 0 (fun _ => true) true n 23 (([c0, c1].drop 1).take (Tryz.prog.cellsOf 23)) = xs[1]? := hget 1 _ rfl
  rw [cells_data] at g0
  rw [show Tryz.prog.cellsOf 23 = 1 by kernel_rfl] at g1
  have hx5 : xs.length = 2 := hxs
  match xs, hx5 with
  | [x0, x1], _ =>
   have we : ∀ (i : Nat) (t : TypeId) (z : DataW H), [22, 23][i]? = some t → [x0.1, x1.1][i]? = some z → ∀ n ∈ z.weights Tryz.prog t, n ≤ reachBytes := by
    intro i t z ht hz q hq
    refine hw q ?_
    show q ∈ DataW.weights Tryz.prog 25 (.agg _)
    simp only [DataW.weights, Tryz.underlying25]
    exact weightsEach_mem i ht hz q hq
   obtain ⟨l, hl⟩ := repS_of_trod n c0 x0 (show _ = some x0 from g0) (we 0 22 _ rfl rfl)
   obtain ⟨l2, hl2⟩ := slC_of_trod (te := 31) (size := 5) (bs := 72) Tryz.underlying23 (by kernel_rfl) (by kernel_rfl) (by omega) (by omega) (R := ProcR W W.heap.size) (fun n' cs' y hy hw => procR_of_trod n' cs' y hy hw) n c1 x1 (show _ = some x1 from g1) (we 1 23 _ rfl rfl)
   exact ⟨⟨l, l2⟩, c0, c1, rfl, hl, hl2⟩
end
end
section
open Go
section
variable {P : Program} {ops : Array Oper} {md : Region.Mode}
def backB (md : Region.Mode) (ops : Array Oper) : Bool := (List.range ops.size).all fun i => ((ops[i]?).map (·.after.all fun e => !Region.binds md e || decide (e.on < i))).getD true
theorem first_ready {n : Nat} {listed : Array Bool} (hb : backB md ops = true) (hs : listed.size = ops.size) (h : ∃ i, i < n ∧ i < ops.size ∧ listed.getD i true = false) : Region.ready md ops listed ≠ [] := by
 obtain ⟨i, hi⟩ := h
 induction i using Nat.strongRecOn with
 | _ i ih =>
  by_cases hr : i ∈ Region.ready md ops listed
  ·intro h0; rw [h0] at hr; cases hr
  ·obtain ⟨o, ho⟩ : ∃ o, ops[i]? = some o := ⟨_, Array.getElem?_eq_getElem hi.2.1⟩
   have : ∃ e ∈ o.after, Region.binds md e = true ∧ listed.getD e.on false = false := by
    apply Classical.byContradiction
    intro hn
    exact hr (mem_ready.2 ⟨hi.2.2, o, ho, fun e he hb' => by
     cases hl : listed.getD e.on false with
     | true => rfl
     | false => exact absurd ⟨e, he, hb', hl⟩ hn⟩)
   obtain ⟨e, he, hbe, hl⟩ := this
   have hlt : e.on < i := by
    have := List.all_eq_true.1 hb i (List.mem_range.2 hi.2.1)
    rw [ho] at this
    simp only [Option.map_some, Option.getD_some] at this
    have := Array.all_eq_true_iff_forall_mem.1 this e he
    simpa [hbe] using this
   exact ih e.on hlt ⟨by omega, by omega, getD_in (by rw [hs]; omega) hl⟩
theorem any_inv {n g : Nat} {I : Array Bool → Act → World → Prop} {Q : Exit → Act → World → Prop} (hb : backB md ops = true) (hs : Region.sinkB md ops n = true) (hc : Region.chainB md ops n = true) (hn : n < ops.size)
  (hstep : ∀ listed a w i, I listed a w → i < n → i ∈ Region.ready md ops listed → wpOp P ops Q i (fun a' w' => I (listed.setIfInBounds i true) a' w') a w)
  (hend : ∀ listed a w, I listed a w → HeadInv md ops n listed → (∀ i, i < n → listed.getD i true = true) → wpAny P md ops Q g listed a w) :
  ∀ (f : Nat) (listed : Array Bool) (a : Act) (w : World), ((List.range n).filter fun i => !listed.getD i true).length = f → HeadInv md ops n listed → I listed a w → wpAny P md ops Q (f + g) listed a w
 | 0, listed, a, w, hf, inv, h => by
  rw [Nat.zero_add]
  refine hend listed a w h inv fun i hi => ?_
  have h0 := List.eq_nil_of_length_eq_zero hf
  rw [List.filter_eq_nil_iff] at h0
  have := h0 i (List.mem_range.2 hi)
  simpa using this
 | f + 1, listed, a, w, hf, inv, h => by
  rw [show f + 1 + g = (f + g) + 1 by omega]
  have hex : ∃ i, i < n ∧ i < ops.size ∧ listed.getD i true = false := by
   obtain ⟨i, hi⟩ := List.exists_mem_of_length_pos (by rw [hf]; omega)
   rw [List.mem_filter, List.mem_range] at hi
   exact ⟨i, hi.1, by omega, by simpa using hi.2⟩
  refine ⟨fun h0 => absurd h0 (first_ready hb inv.size hex), fun i hi => ?_⟩
  have hin : i < n := by
   rcases Nat.lt_or_ge i n with h' | h'
   ·exact h'
   ·obtain ⟨j, hj, _, hjl⟩ := hex
    exact absurd hi (tail_waits hs hc hn inv _ j rfl hj hjl i h')
  refine wpOp_mono (fun a' w' h' => any_inv hb hs hc hn hstep hend f _ a' w' ?_ (inv.set hi hin) h') (hstep listed a w i h hin hi)
  have hun := (mem_ready.1 hi).1
  have hlt : i < listed.size := by rw [inv.size]; omega
  have e : ((List.range n).filter fun k => !listed.getD k true) = ((List.range n).filter fun k => !listed.getD k true) := rfl
  have key : ((List.range n).filter fun k => !(listed.setIfInBounds i true).getD k true) = (((List.range n).filter fun k => !listed.getD k true)).erase i := by
   rw [List.Nodup.erase_eq_filter (List.nodup_range.sublist List.filter_sublist), List.filter_filter]
   apply List.filter_congr
   intro k hk
   by_cases hki : k = i
   ·subst hki
    simp [hlt]
   ·rw [getD_set_ne true (Ne.symm hki)]
    simp [hki]
  rw [key, List.length_erase_of_mem (by rw [List.mem_filter, List.mem_range]; exact ⟨hin, by simpa using hun⟩), hf]
  rfl
def slotsB (ops : Array Oper) (n m : Nat) : Bool := (List.range n).all fun i => (List.range n).all fun j => match ops[i]?, ops[j]? with
 | some oi, some oj => (match oi.dst, oj.dst with | some d, some e => decide (d < m) && (decide (i = j) || decide (d ≠ e)) | _, _ => true)
 | _, _ => true
def guardsB (md : Region.Mode) (ops : Array Oper) (n m : Nat) (gs : List Nat) : Bool := (List.range n).all fun i => match ops[i]? with
 | some oi => (match oi.guard with
  | none => true
  | some (g, b) => b && (gs.contains g && (decide (g < n) && ((match ops[g]? with | some og => (match og.dst with | some d => decide (d < m) | none => false) | none => false) && oi.after.any fun e => Region.binds md e && e.on == g))))
 | none => true
theorem put_getD {a : Act} {d t : Nat} {v : Value} (hd : d < a.tmps.size) : (a.put (some d) v).tmps.getD t undef = if d = t then v else a.tmps.getD t undef := by
 show (a.tmps.setIfInBounds d v).getD t undef = _
 by_cases h : d = t
 ·subst h
  simp [hd]
 ·rw [if_neg h]
  simp [Array.getElem?_setIfInBounds_ne h]
theorem wanted_of {n m : Nat} {gs : List Nat} {R : Nat → Value → World → Prop} {a : Act} {w : World} {i : Nat} {o : Oper} (hgd : guardsB md ops n m gs = true) (hG : ∀ g ∈ gs, ∀ v w, R g v w → v = .bool true) (hi : i < n) (ho : ops[i]? = some o) (hm : m ≤ a.tmps.size)
  (hdep : ∀ j oj d, j < n → ops[j]? = some oj → (∃ e ∈ o.after, Region.binds md e = true ∧ e.on = j) → oj.dst = some d → R j (a.tmps.getD d undef) w) : Region.wanted o (yielded ops a.tmps) = true := by
 have h1 := List.all_eq_true.1 hgd i (List.mem_range.2 hi)
 simp only [ho] at h1
 unfold Region.wanted
 cases hg : o.guard with
 | none => rfl
 | some p =>
  obtain ⟨g, b⟩ := p
  rw [hg] at h1
  simp only [Bool.and_eq_true, decide_eq_true_eq] at h1
  obtain ⟨rfl, h2, h3, h4, h5⟩ := h1
  cases hog : ops[g]? with
  | none => rw [hog] at h4; cases h4
  | some og =>
   rw [hog] at h4
   simp only at h4
   cases hd : og.dst with
   | none => rw [hd] at h4; cases h4
   | some d =>
    rw [hd] at h4
    simp only [decide_eq_true_eq] at h4
    rw [Array.any_eq_true'] at h5
    obtain ⟨e, he, hb⟩ := h5
    simp only [Bool.and_eq_true, beq_iff_eq] at hb
    have hv := hG g (List.contains_iff_mem.1 h2) _ _ (hdep g og d h3 hog ⟨e, he, hb.1, hb.2⟩ hd)
    have hlt : d < a.tmps.size := Nat.lt_of_lt_of_le h4 hm
    have hv2 : a.tmps[d]? = some (.bool true) := by
     rw [Array.getElem?_eq_getElem hlt]
     simpa [Array.getD, hlt] using hv
    simp [yielded, hog, hd, hv2]
theorem wp_noPanic {o : Oper} {a : Act} {w : World} {K : Act → World → Prop} {Q : Exit → Act → World → Prop} (h : o.wp P a w K (fun _ _ _ => False)) : o.wp P a w K Q := by
  unfold Oper.wp at *
  generalize (execOp a.eval o).run P w = r at *
  cases r with
  | ok n w' =>
    cases n <;> simp only [Oper.upon] at h ⊢ <;>
      first
        | exact h
        | (refine Calls.mono h (fun e w'' he => ?_)
           cases e with
           | returned v => exact he
           | panicked c => exact he.elim
           | outgrown => obtain ⟨_, _, hf⟩ := he; exact hf.elim)
  | halt x w' => cases x <;> simp only [Oper.upon] at h ⊢ <;> exact h.elim
theorem wp_of_list {o : Oper} {a : Act} {w : World} {K : Act → World → Prop} {Q : Exit → Act → World → Prop} (hg : Region.wanted o (yielded ops a.tmps) = true)
    (h : wpList P ops (fun e a' w' => e = .normal ∧ K a' w') [o] a w) : o.wp P a w K Q := by
  unfold wpList at h
  rw [if_pos hg] at h
  rcases h with h | ⟨_, _, _, hf, _⟩
  · refine wp_noPanic (Oper.wp_mono (K := wpList P ops (fun e a' w' => e = .normal ∧ K a' w') []) (fun a' w' h' => (show (Exit.normal = Exit.normal ∧ K a' w') from h').2) ?_)
    have h2 : o.wp P a w (wpList P ops (fun e a' w' => e = .normal ∧ K a' w') []) (fun e a' w' => e = .normal ∧ K a' w') := h
    clear h
    unfold Oper.wp at *
    generalize (execOp a.eval o).run P w = r at *
    cases r with
    | ok n w' =>
      cases n <;> simp only [Oper.upon] at h2 ⊢ <;>
        first
          | exact h2
          | (refine Calls.mono h2 (fun e w'' he => ?_)
             cases e with
             | returned v => exact he
             | panicked c => cases he.1
             | outgrown => obtain ⟨_, _, hf, _⟩ := he; cases hf)
          | exact Rows.mono h2 (fun _ _ he => he)
    | halt x w' => cases x <;> simp only [Oper.upon] at h2 ⊢ <;> first | (cases h2.1) | exact h2
  · cases hf
def headDone (n m : Nat) : Array Bool := (List.replicate n true ++ List.replicate (m - n) false).toArray
theorem headDone_eq {n : Nat} {listed : Array Bool} (hn : n < ops.size) (inv : HeadInv md ops n listed) (h : ∀ i, i < n → listed.getD i true = true) : listed = headDone n ops.size := by
 apply Array.ext
 ·rw [inv.size]; simp [headDone]; omega
 ·intro i h1 h2
  simp only [headDone, List.getElem_toArray]
  by_cases hi : i < n
  ·rw [List.getElem_append_left (by simpa using hi)]
   have := h i hi
   simpa [h1] using this
  ·rw [List.getElem_append_right (by simpa using (by omega : n ≤ i))]
   have := inv.tail i (by omega) (by rw [← inv.size]; exact h1)
   simpa [h1] using this
def monoG (ops : Array Oper) (n m : Nat) : Bool :=
 backB .any ops && (Region.sinkB .any ops n && (Region.chainB .any ops n && (decide (n < ops.size) && (slotsB ops n m && Region.seqB .any ops (ops.size - n) n (headDone n ops.size)))))
def monoB (ops : Array Oper) (n m : Nat) : Bool := monoG ops n m && guardsB .any ops n m []
def Rest (ops : Array Oper) (n : Nat) (a0 a : Act) : Prop := ∀ t, (∀ i o, i < n → ops[i]? = some o → o.dst ≠ some t) → a.tmps.getD t undef = a0.tmps.getD t undef
def StepPost (R : Nat → Value → World → Prop) (Ext : World → World → Prop) (i : Nat) (o : Oper) (a : Act) (w1 : World) (e : Exit) (a' : Act) (w' : World) : Prop := e = .normal ∧ ∃ v, a' = a.put o.dst v ∧ R i v w' ∧ Ext w1 w'
def restB (ops : Array Oper) (n t : Nat) : Bool := (List.range n).all fun i => match ops[i]? with | some o => o.dst != some t | none => true
theorem Rest.at {n : Nat} {a0 a : Act} (h : Rest ops n a0 a) (t : Nat) (hB : restB ops n t = true) : a.tmps.getD t undef = a0.tmps.getD t undef :=
 h t fun i o hi ho => by
  have := List.all_eq_true.1 hB i (List.mem_range.2 hi)
  simpa [ho] using this
def depB (ops : Array Oper) (n : Nat) (o : Oper) (j d : Nat) : Bool := decide (j < n) && ((match ops[j]? with | some oj => oj.dst == some d | none => false) && o.after.any fun e => Region.binds .any e && e.on == j)
theorem dep_at {n : Nat} {o : Oper} {R : Nat → Value → World → Prop} {a : Act} {w1 : World} (h : ∀ j oj d, j < n → ops[j]? = some oj → (∃ e ∈ o.after, Region.binds .any e = true ∧ e.on = j) → oj.dst = some d → R j (a.tmps.getD d undef) w1) (j d : Nat) (hB : depB ops n o j d = true) : R j (a.tmps.getD d undef) w1 := by
 simp only [depB, Bool.and_eq_true, decide_eq_true_eq] at hB
 obtain ⟨h1, h2, h3⟩ := hB
 cases hj : ops[j]? with
 | none => rw [hj] at h2; cases h2
 | some oj =>
  rw [hj] at h2
  rw [Array.any_eq_true'] at h3
  obtain ⟨e, he, hb⟩ := h3
  simp only [Bool.and_eq_true, beq_iff_eq] at hb
  exact h j oj d h1 hj ⟨e, he, hb.1, hb.2⟩ (by simpa using h2)
end
end
section
open Go.RowKit
end
end Go.Proofs.YtigkhmppnnljiaaGreatDoor

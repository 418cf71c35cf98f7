/-
  What the proofs lean on: RdP6, RdL0, RdL2.
-/
import Derived.Defers
import Derived.Recover
import Derived.Laws.Pointers
import Derived.Deep.RegionLaw
import Derived.Test.YtpcneeekmhdhgaaDoorRddA03
import Derived.Test.YtpcneeekmhdhgaaDoorRddA05
import Derived.Test.YtpcneeekmhdhgaaDoorRddA07
set_option maxRecDepth 100000
set_option maxHeartbeats 16000000
namespace Go.Proofs.YtpcneeekmhdhgaaDoor
section
open Go Go.RowKit
theorem pread1_panic (n : Nat) (bo ba be : Nat) (sv : Value) (ai ei : Int) (w : World) (h0 : BoxL w bo 23 [sv]) (h1 : BoxL w ba 3 [.int .i64 ai]) (h2 : BoxL w be 24 [.int .i64 ei]) :
  CallsD Tryd.prog 7 #[.pointer (some ⟨bo, 0, none⟩), .pointer (some ⟨ba, 0, none⟩), .pointer (some ⟨be, 0, none⟩)] (.panicking (stopAt n)) w fun e u' w' =>
   e = .returned (.tuple #[]) ∧ u' = .panicking [{ v := .iface 32 (.agg #[.int .i64 n]), recovered := true }] ∧ BoxL w' bo 23 [.slice none 0 0] ∧ BoxL w' ba 3 [.int .i64 n] ∧ BoxL w' be 24 [.int .i64 2] ∧ Turned (fun c => c = bo ∨ c = ba ∨ c = be) w w' := by
 refine callsD_of_wpS Tryd.func7 rfl fun c₀ cs hu => ?_
 have c0 := h0.cell 0 rfl
 have c1 := h1.cell 0 rfl
 have c2 := h2.cell 0 rfl
 have z0 := h0.free 0
 have z1 := h1.free 0
 have z2 := h2.free 0
 have l0 := h0.lt
 have l1 := h1.lt
 have l2 := h2.lt
 have tne : ∀ {x y : Nat} {t u : TypeId} {cs ds : List Value}, BoxL w x t cs → BoxL w y u ds → t ≠ u → x ≠ y := fun hx hy ht e => by
  subst e
  have := Option.some.inj ((show w.heap[_]? = _ from hx).symm.trans hy)
  simp only [Obj.cells.injEq] at this
  exact ht this.2.1
 have n1 : bo ≠ ba := tne h0 h1 (by decide)
 have n2 : bo ≠ be := tne h0 h2 (by decide)
 have n3 : ba ≠ be := tne h1 h2 (by decide)
 apply wpS_seq
 apply wpS_region
 simp only [go_sem, Tryd.ntmps7]
 simp [wpOpsS, go_sem, recoverD, hu, Exit.thenS]
 refine wpS_of_wp ?_
 simp only [Array.replicate_succ, Array.replicate_zero, List.push_toArray, List.nil_append, List.cons_append, List.setIfInBounds_toArray, List.set_cons_zero, List.set_cons_succ, List.append_toArray]
 obtain ⟨Q', hQ⟩ : ∃ Q' : Exit → Act → World → Prop, Q' = (fun e a' w' => e = .normal ∧ a'.defers = [] ∧ BoxL w' bo 23 [.slice none 0 0] ∧ BoxL w' ba 3 [.int .i64 n] ∧ BoxL w' be 24 [.int .i64 2] ∧ Turned (fun c => c = bo ∨ c = ba ∨ c = be) w w') := ⟨_, rfl⟩
 refine Code.wp_mono (Q := Q') ?_ ?_
 ·subst hQ
  rintro e a' w' ⟨rfl, hd, h3, h4, h5, h6⟩
  exact ⟨hd, _, rfl, .tuple #[], by simp [results, Tryd.results7], rfl, rfl, h3, h4, h5, h6⟩
 have hta : ∀ w, (Instr.typeAssert (.iface 32 (.agg #[.int .i64 n])) 20 32 true).run Tryd.prog w = .ok (.tuple #[.agg #[.int .i64 n], .bool true]) w := fun _ => rfl
 go_wp2_with fail
 go_region
 all_goals go_wp2_with fail
 rw [hQ]
 refine ⟨rfl, rfl, ?_, ?_, ?_, ?_⟩
 ·exact ((((h0.set 0 (.slice none 0 0)).other ⟨ba, 0, none⟩ (.int .i64 n) n1).other ⟨be, 0, none⟩ (.int .i64 2) n2).alloc _)
 ·exact ((((h1.other ⟨bo, 0, none⟩ (.slice none 0 0) (Ne.symm n1)).set 0 (.int .i64 n)).other ⟨be, 0, none⟩ (.int .i64 2) n3).alloc _)
 ·exact ((((h2.other ⟨bo, 0, none⟩ (.slice none 0 0) (Ne.symm n2)).other ⟨ba, 0, none⟩ (.int .i64 n) (Ne.symm n3)).set 0 (.int .i64 2)).alloc _)
 ·exact (((Turned.set (S := fun c => c = bo ∨ c = ba ∨ c = be) _ _ _ (.inl rfl)).next (Turned.set _ _ _ (.inr (.inl rfl)))).next (Turned.set _ _ _ (.inr (.inr rfl)))).next ((Turned.of_below (Below.one _ _)).next (Turned.of_below (Below.selfN _ 1)))
theorem pread1_idle (bo ba be : Nat) (w : World) :
  CallsD Tryd.prog 7 #[.pointer (some ⟨bo, 0, none⟩), .pointer (some ⟨ba, 0, none⟩), .pointer (some ⟨be, 0, none⟩)] .returning w fun e u' w' => e = .returned (.tuple #[]) ∧ u' = .returning ∧ w' = w := by
 refine callsD_of_wpS Tryd.func7 rfl fun c₀ cs hu => ?_
 apply wpS_seq
 apply wpS_region
 simp [wpOpsS, go_sem, recoverD, hu, Exit.thenS, Tryd.ntmps7]
 refine wpS_of_wp ?_
 simp only [Array.replicate_succ, Array.replicate_zero, List.push_toArray, List.nil_append, List.cons_append, List.setIfInBounds_toArray, List.set_cons_zero, List.set_cons_succ, List.append_toArray]
 obtain ⟨Q', hQ⟩ : ∃ Q' : Exit → Act → World → Prop, Q' = (fun e a' w' => e = .normal ∧ a'.defers = [] ∧ w' = w) := ⟨_, rfl⟩
 refine Code.wp_mono (Q := Q') ?_ ?_
 ·subst hQ
  rintro e a' w' ⟨rfl, hd, rfl⟩
  cases c₀
  simp_all [bodyPostS, results, Tryd.results7]
 go_wp2_with fail
 rw [hQ]
 exact ⟨rfl, rfl, rfl⟩
theorem grown_drew' {A B : World} {row : Option Nat} (h : A.drew.grownBy B row) : A.grownBy B row := ⟨h.os, h.tape, h.output, h.size, h.block⟩
theorem step_append_zero {W : World} {ops : Array Oper} {o : Oper} {a : Act} {K : Act → World → Prop} {Q : Exit → Act → World → Prop} {E : Prop} (hgd : o.guard = none) (s x : Operand)
  (ho : o.op = .call { callee := .builtin .append, args := #[s, x], argTypes := #[23, 23] }) (Kn base : Nat) (l : List Dat) (v : Value) (hs : a.eval s = v) (hg : Hid (GrownH W Kn base l v)) (ob : Nat) (t : TypeId) (u : Value) (hob : Hid (BoxL W ob t [u])) (hlow : ob < base)
  (hx : a.eval x = .slice (some ⟨W.heap.size, 0, none⟩) 1 1) (hm : l.length ≤ 1000000) (hb : base ≤ W.heap.size)
  (h : ∀ g cap w' xs, Hid (w'.ownsRow base 30 5 (.slice (some ⟨g, 0, none⟩) (l.length + 1) cap) (l.length + 1) (xs ++ [.int .i64 0, .int .i64 0, .int .i64 0, .string ⟨#[]⟩, .slice none 0 0])) → Hid (CellsD (hide W (LoR Kn v)) W.heap.size l xs) → Hid (Turned (fun b => v.ownBlock = some b) W w') → Hid (v.ownBlock = some g ∨ W.heap.size < g) → Hid (BoxL w' ob t [u]) →
   w'.cell? ⟨g, l.length * 5, none⟩ = some (.int .i64 0) → w'.cell? ⟨g, l.length * 5 + 1, none⟩ = some (.int .i64 0) → w'.cell? ⟨g, l.length * 5 + 2, none⟩ = some (.int .i64 0) → w'.cell? ⟨g, l.length * 5 + 3, none⟩ = some (.string ⟨#[]⟩) → w'.cell? ⟨g, l.length * 5 + 4, none⟩ = some (.slice none 0 0) →
   w'.frozen? ⟨g, l.length * 5, none⟩ = false → w'.frozen? ⟨g, l.length * 5 + 1, none⟩ = false → w'.frozen? ⟨g, l.length * 5 + 2, none⟩ = false → w'.frozen? ⟨g, l.length * 5 + 3, none⟩ = false → w'.frozen? ⟨g, l.length * 5 + 4, none⟩ = false →
   w'.cell? ⟨ob, 0, none⟩ = some u → w'.frozen? ⟨ob, 0, none⟩ = false → ob < g → g < w'.heap.size → K (a.put o.dst (.slice (some ⟨g, 0, none⟩) (l.length + 1) cap)) w') :
  if Region.wanted o (yielded ops a.tmps) = true then Oper.wp Tryd.prog o a (W.alloc (.cells #[.int .i64 0, .int .i64 0, .int .i64 0, .string ⟨#[]⟩, .slice none 0 0] 30)).drew K Q else E := by
 have hw : Region.wanted o (yielded ops a.tmps) = true := by simp [Region.wanted, hgd]
 rw [if_pos hw]
 obtain ⟨h0, xs, h1, h2⟩ := hg.out
 obtain ⟨i0, hi, hz0, hz1, hz2⟩ := info_parts info_datum
 refine wp_append_lies _ s x 23 ho base 30 i0 (.agg #[.int .i64 0, .int .i64 0, .int .i64 0, .string ⟨#[]⟩, .slice none 0 0]) 5 64 Tryd.underlying23 hi hz0 hz1 hz2 rfl (by decide) v l.length xs hs (h1.alloc _) ⟨W.heap.size, 0, none⟩ 1 1 [.int .i64 0, .int .i64 0, .int .i64 0, .string ⟨#[]⟩, .slice none 0 0] hx rfl (new_five W _ _ _ _ _ _) (by intro u hu; simp only [List.mem_cons, List.not_mem_nil, or_false] at hu; rcases hu with rfl | rfl | rfl | rfl | rfl <;> rfl) (by decide) (by unfold maxLen; omega) (by omega) (by show base ≤ (W.alloc _).heap.size; simp; omega) (W.heap.size + 1) (by show (W.alloc _).heap.size = _; simp) ?_
 intro g cap w' k1 k2 k3 k4
 have k2' : (W.alloc (.cells #[.int .i64 0, .int .i64 0, .int .i64 0, .string ⟨#[]⟩, .slice none 0 0] 30)).grownBy w' v.ownBlock := grown_drew' k2
 have ht : Turned (fun b => v.ownBlock = some b) W w' := (Turned.of_below (Below.one W _)).next (Turned.grown k2' fun b hb => hb)
 have hgb : base ≤ g := (k1.lt g rfl).1
 have hbx : BoxL w' ob t [u] := ht.box hob.out (fun e => by have := (h1.lt ob e).1; omega)
 have hxl : xs.length = l.length * 5 := h2.length
 have cx : ∀ j, j < 5 → w'.cell? ⟨g, l.length * 5 + j, none⟩ = ([.int .i64 0, .int .i64 0, .int .i64 0, .string ⟨#[]⟩, .slice none 0 0] : List Value)[j]? := fun j hj => by
  rw [k1.cellAt (l.length * 5 + j) (by omega), List.getElem?_append_right (by omega), hxl, Nat.add_sub_cancel_left]
 exact h g cap w' xs (Lib.hid (by simpa using k1)) (Lib.hid h2) (Lib.hid ht) (Lib.hid (k3.imp id fun e => by omega)) (Lib.hid hbx) (cx 0 (by omega)) (cx 1 (by omega)) (cx 2 (by omega)) (cx 3 (by omega)) (cx 4 (by omega)) (k1.frozenAt _) (k1.frozenAt _) (k1.frozenAt _) (k1.frozenAt _) (k1.frozenAt _) (hbx.cell 0 rfl) (hbx.free 0) (by omega) k4
theorem row_turned {T : Nat → Prop} {W W' : World} {base k n : Nat} {t : TypeId} {v : Value} {xs : List Value} (h : W.ownsRow base t k v n xs) (ht : Turned T W W') (hT : ∀ b, T b → b < base) : W'.ownsRow base t k v n xs := by
 refine ⟨h.1, ?_⟩
 rcases h.2 with h' | ⟨g, cap, cur, rfl, k2, k3, k4⟩
 ·exact .inl h'
 ·refine .inr ⟨g, cap, cur, rfl, k2, ?_, k4⟩
  have hlt := h.lt g rfl
  exact (ht.block g hlt.2 fun hs => by have := hT g hs; omega).trans k3
theorem row_five {W : World} {base g n cap : Nat} {t : TypeId} {xs : List Value} (c0 c1 c2 c3 c4 : Value) {d0 d1 d2 d3 d4 : Value} (hx : xs.length = n * 5) (h : W.ownsRow base t 5 (.slice (some ⟨g, 0, none⟩) (n + 1) cap) (n + 1) (xs ++ [d0, d1, d2, d3, d4])) :
  (((((W.setCell ⟨g, n * 5, none⟩ c0).setCell ⟨g, n * 5 + 1, none⟩ c1).setCell ⟨g, n * 5 + 2, none⟩ c2).setCell ⟨g, n * 5 + 3, none⟩ c3).setCell ⟨g, n * 5 + 4, none⟩ c4).ownsRow base t 5 (.slice (some ⟨g, 0, none⟩) (n + 1) cap) (n + 1) (xs ++ [c0, c1, c2, c3, c4]) := by
 have k := (((((h.stored (n * 5) c0).1.stored (n * 5 + 1) c1).1.stored (n * 5 + 2) c2).1.stored (n * 5 + 3) c3).1.stored (n * 5 + 4) c4).1
 have e : ∀ (j : Nat) (u : Value) (l : List Value), (xs ++ l).set (n * 5 + j) u = xs ++ l.set j u := fun j u l => by
  rw [← hx, List.set_append_right _ _ (by omega), Nat.add_sub_cancel_left]
 have e0 : ∀ (u : Value) (l : List Value), (xs ++ l).set (n * 5) u = xs ++ l.set 0 u := fun u l => e 0 u l
 rw [e0, e, e, e, e] at k
 exact k
theorem grown_stored {w4 w5 w6 : World} {K base E g cap ob : Nat} {l : List Dat} {x : Dat} {v : Value} {xs : List Value} {c0 c1 c2 c3 c4 : Value} (h0 : K ≤ base)
  (hR : w6.ownsRow base 30 5 (.slice (some ⟨g, 0, none⟩) (l.length + 1) cap) (l.length + 1) (xs ++ [c0, c1, c2, c3, c4]))
  (h2 : CellsD (hide w4 (LoR K v)) w4.heap.size l xs) (ht : Turned (fun b => v.ownBlock = some b) w4 w5) (k3 : v.ownBlock = some g ∨ w4.heap.size < g)
  (ht6 : Turned (fun b => b = g ∨ b = ob) w5 w6) (hob : ob < K)
  (hy : RepD (hide w4 (Lo E)) w4.heap.size x (.agg #[c0, c1, c2, c3, c4])) (hE : K ≤ E) (hEr : ∀ g, v.ownBlock = some g → g < E) : GrownH w6 K base (l ++ [x]) (.slice (some ⟨g, 0, none⟩) (l.length + 1) cap) := by
 have hT6 : Turned (LoR K v) w4 w6 := (ht.wider (S' := LoR K v) fun b _ hb => .inr hb).trans ht6 fun b hb hs => by
  rcases hs with rfl | rfl
  ·rcases k3 with k3 | k3
   ·exact .inr k3
   ·omega
  ·exact .inl hob
 refine ⟨h0, xs ++ [c0, c1, c2, c3, c4], by simpa using hR, ?_⟩
 have hnew : ∀ b, LoR K (.slice (some ⟨g, 0, none⟩) (l.length + 1) cap) b → b < w4.heap.size → LoR K v b := by
  intro b hb hlt
  rcases hb with hb | hb
  ·exact .inl hb
  ·simp only [Value.ownBlock, Option.some.injEq] at hb
   subst hb
   rcases k3 with k3 | k3
   ·exact .inr k3
   ·omega
 have sh : Shown w4 (LoR K v) w6 (LoR K (.slice (some ⟨g, 0, none⟩) (l.length + 1) cap)) := by
  intro c o' u hc hu
  have hlt := cell_lt hu
  obtain ⟨_, h5⟩ := Shown.turned (S := LoR K v) hT6 (fun b _ hb => hb) c o' u hc hu
  exact ⟨fun hs => hc (hnew c hs hlt), h5⟩
 refine CellsD.snoc ?_ (h2.shown sh hT6.size)
 refine hy.shown ?_ hT6.size
 intro c o' u hc hu
 have hlt := cell_lt hu
 have hc2 : ¬ LoR K v c := fun hh => hh.elim (fun hh => hc (Nat.lt_of_lt_of_le hh hE)) fun hh => hc (hEr c hh)
 exact sh c o' u hc2 hu
theorem read_inv {s : ByteArray} {w wr w1 w4 w5 w6 : World} {q : List UInt8} {l0 : List Dat} {x : Dat} {v : Value} {g cap : Nat} {c0 c1 c2 c3 c4 : Value} {xs : List Value}
  (hA : Hid (Rd.A s.data.toList = (Rd.A q).map ((l0 ++ [x]) ++ ·))) (hqa : Hid (Rd.At s (s.size - q.length) q)) (_hq : q.length ≤ s.size) (hlen : l0.length + 1 + q.length ≤ s.size)
  (hg : Hid (GrownH wr (w.heap.size + 4) (w.heap.size + 4) l0 v)) (hz : w.heap.size + 4 ≤ wr.heap.size) (h01 : wr.heap.size ≤ w1.heap.size) (hbl : Hid (Below w.heap.size w wr)) (ht4 : Hid (Turned (fun c => c = w.heap.size + 1 + 1 + 1) wr w4))
  (hx1 : Hid (BoxL w4 (w.heap.size + 1) 3 [.int .i64 0])) (hx2 : Hid (BoxL w4 (w.heap.size + 1 + 1) 24 [.int .i64 0])) (hx3 : Hid (PB w4 (w.heap.size + 1 + 1 + 1) s (s.size - q.length)))
  (hy : Hid (RepD (hide w4 (Lo w1.heap.size)) w4.heap.size x (.agg #[c0, c1, c2, c3, c4]))) (h2 : Hid (CellsD (hide w4 (LoR (w.heap.size + 4) v)) w4.heap.size l0 xs)) (h3 : Hid (Turned (fun b => v.ownBlock = some b) w4 w5)) (h4 : Hid (v.ownBlock = some g ∨ w4.heap.size < g))
  (hR : w6.ownsRow (w.heap.size + 4) 30 5 (.slice (some ⟨g, 0, none⟩) (l0.length + 1) cap) (l0.length + 1) (xs ++ [c0, c1, c2, c3, c4])) (h6 : Turned (fun b => b = g ∨ b = w.heap.size) w5 w6) (hb6 : BoxL w6 w.heap.size 23 [.slice (some ⟨g, 0, none⟩) (l0.length + 1) cap]) :
  Hid (∃ (a' : Nat) (r' : List UInt8) (l1 : List Dat) (lv : Value), PB w6 (w.heap.size + 1 + 1 + 1) s a' ∧ Rd.At s a' r' ∧ BoxL w6 w.heap.size 23 [lv] ∧ BoxL w6 (w.heap.size + 1) 3 [.int .i64 0] ∧ BoxL w6 (w.heap.size + 1 + 1) 24 [.int .i64 0] ∧ GrownH w6 (w.heap.size + 4) (w.heap.size + 4) l1 lv ∧ Rd.A s.data.toList = (Rd.A r').map (l1 ++ ·) ∧ r'.length ≤ q.length ∧ l1.length + r'.length ≤ s.size ∧ Below w.heap.size w w6) := by
 have hgw := hg.out
 have hbk := fun b hb => hgw.block (g := b) hb
 have hgb := (hR.lt g rfl).1
 have hsz : wr.heap.size ≤ w4.heap.size := ht4.out.size
 have hT6 : Turned (fun b => w.heap.size + 4 ≤ b ∨ b = w.heap.size) w4 w6 := (h3.out.wider (S' := fun b => w.heap.size + 4 ≤ b ∨ b = w.heap.size) fun b _ hb => .inl (hbk b hb).1).trans h6 fun b _ hs => by
  rcases hs with rfl | rfl
  ·exact .inl hgb
  ·exact .inr rfl
 refine Lib.hid ⟨_, q, l0 ++ [x], _, hT6.box hx3.out (by omega), hqa.out, hb6, hT6.box hx1.out (by omega), hT6.box hx2.out (by omega), grown_stored (Nat.le_refl _) hR h2.out h3.out h4.out h6 (by omega) hy.out (by omega) (fun b hb => by have := (hbk b hb).2; omega), hA.out, Nat.le_refl _, by simp only [List.length_append, List.length_cons, List.length_nil]; omega, ?_⟩
 exact (hbl.out.trans (ht4.out.below (fun b hb => by omega) hbl.out.size)).trans (hT6.below (fun b hb => by omega) (by have := hbl.out.size; omega))
theorem read_inv1 {s : ByteArray} {w wr w1 w4 w5 : World} {q : List UInt8} {l0 : List Dat} {x : Dat} {v : Value} {g cap : Nat} {k9 n9 d9 : Int} {s9 : ByteArray} {o9 : Option Addr} {len9 cap9 : Nat} {xs : List Value}
  (hA : Hid (Rd.A s.data.toList = (Rd.A q).map ((l0 ++ [x]) ++ ·))) (hqa : Hid (Rd.At s (s.size - q.length) q)) (hq : q.length ≤ s.size) (hlen : l0.length + 1 + q.length ≤ s.size)
  (hg : Hid (GrownH wr (w.heap.size + 4) (w.heap.size + 4) l0 v)) (hz : w.heap.size + 4 ≤ wr.heap.size) (h01 : wr.heap.size ≤ w1.heap.size) (hbl : Hid (Below w.heap.size w wr)) (ht4 : Hid (Turned (fun c => c = w.heap.size + 1 + 1 + 1) wr w4))
  (hx1 : Hid (BoxL w4 (w.heap.size + 1) 3 [.int .i64 0])) (hx2 : Hid (BoxL w4 (w.heap.size + 1 + 1) 24 [.int .i64 0])) (hx3 : Hid (PB w4 (w.heap.size + 1 + 1 + 1) s (s.size - q.length)))
  (hy : Hid (RepD (hide w4 (Lo w1.heap.size)) w4.heap.size x (.agg #[.int .i64 k9, .int .i64 n9, .int .i64 d9, .string s9, .slice o9 len9 cap9]))) (h2 : Hid (CellsD (hide w4 (LoR (w.heap.size + 4) v)) w4.heap.size l0 xs)) (h3 : Hid (Turned (fun b => v.ownBlock = some b) w4 w5)) (h4 : Hid (v.ownBlock = some g ∨ w4.heap.size < g))
  (h1 : Hid (w5.ownsRow (w.heap.size + 4) 30 5 (.slice (some ⟨g, 0, none⟩) (l0.length + 1) cap) (l0.length + 1) (xs ++ [.int .i64 0, .int .i64 0, .int .i64 0, .string ⟨#[]⟩, .slice none 0 0]))) (h5 : Hid (BoxL w5 w.heap.size 23 [v])) (_hgt : w.heap.size < g) :
  Hid (∃ (a' : Nat) (r' : List UInt8) (l1 : List Dat) (lv : Value), PB ((((((w5.setCell ⟨g, l0.length * 5, none⟩ (.int .i64 k9)).setCell ⟨g, l0.length * 5 + 1, none⟩ (.int .i64 n9)).setCell ⟨g, l0.length * 5 + 2, none⟩ (.int .i64 d9)).setCell ⟨g, l0.length * 5 + 3, none⟩ (.string s9)).setCell ⟨g, l0.length * 5 + 4, none⟩ (.slice o9 len9 cap9)).setCell ⟨w.heap.size, 0, none⟩ (.slice (some ⟨g, 0, none⟩) (l0.length + 1) cap)) (w.heap.size + 1 + 1 + 1) s a' ∧ Rd.At s a' r' ∧ BoxL ((((((w5.setCell ⟨g, l0.length * 5, none⟩ (.int .i64 k9)).setCell ⟨g, l0.length * 5 + 1, none⟩ (.int .i64 n9)).setCell ⟨g, l0.length * 5 + 2, none⟩ (.int .i64 d9)).setCell ⟨g, l0.length * 5 + 3, none⟩ (.string s9)).setCell ⟨g, l0.length * 5 + 4, none⟩ (.slice o9 len9 cap9)).setCell ⟨w.heap.size, 0, none⟩ (.slice (some ⟨g, 0, none⟩) (l0.length + 1) cap)) w.heap.size 23 [lv] ∧ BoxL ((((((w5.setCell ⟨g, l0.length * 5, none⟩ (.int .i64 k9)).setCell ⟨g, l0.length * 5 + 1, none⟩ (.int .i64 n9)).setCell ⟨g, l0.length * 5 + 2, none⟩ (.int .i64 d9)).setCell ⟨g, l0.length * 5 + 3, none⟩ (.string s9)).setCell ⟨g, l0.length * 5 + 4, none⟩ (.slice o9 len9 cap9)).setCell ⟨w.heap.size, 0, none⟩ (.slice (some ⟨g, 0, none⟩) (l0.length + 1) cap)) (w.heap.size + 1) 3 [.int .i64 0] ∧ BoxL ((((((w5.setCell ⟨g, l0.length * 5, none⟩ (.int .i64 k9)).setCell ⟨g, l0.length * 5 + 1, none⟩ (.int .i64 n9)).setCell ⟨g, l0.length * 5 + 2, none⟩ (.int .i64 d9)).setCell ⟨g, l0.length * 5 + 3, none⟩ (.string s9)).setCell ⟨g, l0.length * 5 + 4, none⟩ (.slice o9 len9 cap9)).setCell ⟨w.heap.size, 0, none⟩ (.slice (some ⟨g, 0, none⟩) (l0.length + 1) cap)) (w.heap.size + 1 + 1) 24 [.int .i64 0] ∧ GrownH ((((((w5.setCell ⟨g, l0.length * 5, none⟩ (.int .i64 k9)).setCell ⟨g, l0.length * 5 + 1, none⟩ (.int .i64 n9)).setCell ⟨g, l0.length * 5 + 2, none⟩ (.int .i64 d9)).setCell ⟨g, l0.length * 5 + 3, none⟩ (.string s9)).setCell ⟨g, l0.length * 5 + 4, none⟩ (.slice o9 len9 cap9)).setCell ⟨w.heap.size, 0, none⟩ (.slice (some ⟨g, 0, none⟩) (l0.length + 1) cap)) (w.heap.size + 4) (w.heap.size + 4) l1 lv ∧ Rd.A s.data.toList = (Rd.A r').map (l1 ++ ·) ∧ r'.length ≤ q.length ∧ l1.length + r'.length ≤ s.size ∧ Below w.heap.size w ((((((w5.setCell ⟨g, l0.length * 5, none⟩ (.int .i64 k9)).setCell ⟨g, l0.length * 5 + 1, none⟩ (.int .i64 n9)).setCell ⟨g, l0.length * 5 + 2, none⟩ (.int .i64 d9)).setCell ⟨g, l0.length * 5 + 3, none⟩ (.string s9)).setCell ⟨g, l0.length * 5 + 4, none⟩ (.slice o9 len9 cap9)).setCell ⟨w.heap.size, 0, none⟩ (.slice (some ⟨g, 0, none⟩) (l0.length + 1) cap))) := by
 have hgb := (h1.out.lt g rfl).1
 have t5 : Turned (fun b => b = g ∨ b = w.heap.size) w5 (((((w5.setCell ⟨g, l0.length * 5, none⟩ (.int .i64 k9)).setCell ⟨g, l0.length * 5 + 1, none⟩ (.int .i64 n9)).setCell ⟨g, l0.length * 5 + 2, none⟩ (.int .i64 d9)).setCell ⟨g, l0.length * 5 + 3, none⟩ (.string s9)).setCell ⟨g, l0.length * 5 + 4, none⟩ (.slice o9 len9 cap9)) := ((((Turned.set _ _ _ (.inl rfl)).next (Turned.set _ _ _ (.inl rfl))).next (Turned.set _ _ _ (.inl rfl))).next (Turned.set _ _ _ (.inl rfl))).next (Turned.set _ _ _ (.inl rfl))
 have t6 := Turned.set (S := fun b => b = w.heap.size) (((((w5.setCell ⟨g, l0.length * 5, none⟩ (.int .i64 k9)).setCell ⟨g, l0.length * 5 + 1, none⟩ (.int .i64 n9)).setCell ⟨g, l0.length * 5 + 2, none⟩ (.int .i64 d9)).setCell ⟨g, l0.length * 5 + 3, none⟩ (.string s9)).setCell ⟨g, l0.length * 5 + 4, none⟩ (.slice o9 len9 cap9)) ⟨w.heap.size, 0, none⟩ (.slice (some ⟨g, 0, none⟩) (l0.length + 1) cap) rfl
 have hR := row_turned (row_five (.int .i64 k9) (.int .i64 n9) (.int .i64 d9) (.string s9) (.slice o9 len9 cap9) h2.out.length h1.out) t6 (fun b hb => by omega)
 have hb6 := (((((h5.out.other ⟨g, l0.length * 5, none⟩ (.int .i64 k9) (by simp; omega)).other ⟨g, l0.length * 5 + 1, none⟩ (.int .i64 n9) (by simp; omega)).other ⟨g, l0.length * 5 + 2, none⟩ (.int .i64 d9) (by simp; omega)).other ⟨g, l0.length * 5 + 3, none⟩ (.string s9) (by simp; omega)).other ⟨g, l0.length * 5 + 4, none⟩ (.slice o9 len9 cap9) (by simp; omega)).set 0 (.slice (some ⟨g, 0, none⟩) (l0.length + 1) cap)
 exact read_inv hA hqa hq hlen hg hz h01 hbl ht4 hx1 hx2 hx3 hy h2 h3 h4 hR (t5.next (t6.wider fun b _ hb => .inr hb)) hb6
theorem read_inv2 {s : ByteArray} {w wr w1 w4 w5 : World} {q : List UInt8} {l0 : List Dat} {x : Dat} {v : Value} {g cap : Nat} {k9 n9 d9 : Int} {s9 : ByteArray} {o9 : Option Addr} {len9 cap9 : Nat} {xs : List Value}
  (hA : Hid (Rd.A s.data.toList = (Rd.A q).map ((l0 ++ [x]) ++ ·))) (hqa : Hid (Rd.At s (s.size - q.length) q)) (hq : q.length ≤ s.size) (hlen : l0.length + 1 + q.length ≤ s.size)
  (hg : Hid (GrownH wr (w.heap.size + 4) (w.heap.size + 4) l0 v)) (hz : w.heap.size + 4 ≤ wr.heap.size) (h01 : wr.heap.size ≤ w1.heap.size) (hbl : Hid (Below w.heap.size w wr)) (ht4 : Hid (Turned (fun c => c = w.heap.size + 1 + 1 + 1) wr w4))
  (hx1 : Hid (BoxL w4 (w.heap.size + 1) 3 [.int .i64 0])) (hx2 : Hid (BoxL w4 (w.heap.size + 1 + 1) 24 [.int .i64 0])) (hx3 : Hid (PB w4 (w.heap.size + 1 + 1 + 1) s (s.size - q.length)))
  (hy : Hid (RepD (hide w4 (Lo w1.heap.size)) w4.heap.size x (.agg #[.int .i64 k9, .int .i64 n9, .int .i64 d9, .string s9, .slice o9 len9 cap9]))) (h2 : Hid (CellsD (hide w4 (LoR (w.heap.size + 4) v)) w4.heap.size l0 xs)) (h3 : Hid (Turned (fun b => v.ownBlock = some b) w4 w5)) (h4 : Hid (v.ownBlock = some g ∨ w4.heap.size < g))
  (h1 : Hid (w5.ownsRow (w.heap.size + 4) 30 5 (.slice (some ⟨g, 0, none⟩) (l0.length + 1) cap) (l0.length + 1) (xs ++ [.int .i64 0, .int .i64 0, .int .i64 0, .string ⟨#[]⟩, .slice none 0 0]))) (h5 : Hid (BoxL w5 w.heap.size 23 [v])) (_hgt : w.heap.size < g) :
  Hid (∃ (a' : Nat) (r' : List UInt8) (l1 : List Dat) (lv : Value), PB (((((((w5.setCell ⟨w.heap.size, 0, none⟩ (.slice (some ⟨g, 0, none⟩) (l0.length + 1) cap)).setCell ⟨g, l0.length * 5, none⟩ (.int .i64 k9)).setCell ⟨g, l0.length * 5 + 1, none⟩ (.int .i64 n9)).setCell ⟨g, l0.length * 5 + 2, none⟩ (.int .i64 d9)).setCell ⟨g, l0.length * 5 + 3, none⟩ (.string s9)).setCell ⟨g, l0.length * 5 + 4, none⟩ (.slice o9 len9 cap9))) (w.heap.size + 1 + 1 + 1) s a' ∧ Rd.At s a' r' ∧ BoxL (((((((w5.setCell ⟨w.heap.size, 0, none⟩ (.slice (some ⟨g, 0, none⟩) (l0.length + 1) cap)).setCell ⟨g, l0.length * 5, none⟩ (.int .i64 k9)).setCell ⟨g, l0.length * 5 + 1, none⟩ (.int .i64 n9)).setCell ⟨g, l0.length * 5 + 2, none⟩ (.int .i64 d9)).setCell ⟨g, l0.length * 5 + 3, none⟩ (.string s9)).setCell ⟨g, l0.length * 5 + 4, none⟩ (.slice o9 len9 cap9))) w.heap.size 23 [lv] ∧ BoxL (((((((w5.setCell ⟨w.heap.size, 0, none⟩ (.slice (some ⟨g, 0, none⟩) (l0.length + 1) cap)).setCell ⟨g, l0.length * 5, none⟩ (.int .i64 k9)).setCell ⟨g, l0.length * 5 + 1, none⟩ (.int .i64 n9)).setCell ⟨g, l0.length * 5 + 2, none⟩ (.int .i64 d9)).setCell ⟨g, l0.length * 5 + 3, none⟩ (.string s9)).setCell ⟨g, l0.length * 5 + 4, none⟩ (.slice o9 len9 cap9))) (w.heap.size + 1) 3 [.int .i64 0] ∧ BoxL (((((((w5.setCell ⟨w.heap.size, 0, none⟩ (.slice (some ⟨g, 0, none⟩) (l0.length + 1) cap)).setCell ⟨g, l0.length * 5, none⟩ (.int .i64 k9)).setCell ⟨g, l0.length * 5 + 1, none⟩ (.int .i64 n9)).setCell ⟨g, l0.length * 5 + 2, none⟩ (.int .i64 d9)).setCell ⟨g, l0.length * 5 + 3, none⟩ (.string s9)).setCell ⟨g, l0.length * 5 + 4, none⟩ (.slice o9 len9 cap9))) (w.heap.size + 1 + 1) 24 [.int .i64 0] ∧ GrownH (((((((w5.setCell ⟨w.heap.size, 0, none⟩ (.slice (some ⟨g, 0, none⟩) (l0.length + 1) cap)).setCell ⟨g, l0.length * 5, none⟩ (.int .i64 k9)).setCell ⟨g, l0.length * 5 + 1, none⟩ (.int .i64 n9)).setCell ⟨g, l0.length * 5 + 2, none⟩ (.int .i64 d9)).setCell ⟨g, l0.length * 5 + 3, none⟩ (.string s9)).setCell ⟨g, l0.length * 5 + 4, none⟩ (.slice o9 len9 cap9))) (w.heap.size + 4) (w.heap.size + 4) l1 lv ∧ Rd.A s.data.toList = (Rd.A r').map (l1 ++ ·) ∧ r'.length ≤ q.length ∧ l1.length + r'.length ≤ s.size ∧ Below w.heap.size w (((((((w5.setCell ⟨w.heap.size, 0, none⟩ (.slice (some ⟨g, 0, none⟩) (l0.length + 1) cap)).setCell ⟨g, l0.length * 5, none⟩ (.int .i64 k9)).setCell ⟨g, l0.length * 5 + 1, none⟩ (.int .i64 n9)).setCell ⟨g, l0.length * 5 + 2, none⟩ (.int .i64 d9)).setCell ⟨g, l0.length * 5 + 3, none⟩ (.string s9)).setCell ⟨g, l0.length * 5 + 4, none⟩ (.slice o9 len9 cap9)))) := by
 have hgb := (h1.out.lt g rfl).1
 have t6 := Turned.set (S := fun b => b = w.heap.size) w5 ⟨w.heap.size, 0, none⟩ (.slice (some ⟨g, 0, none⟩) (l0.length + 1) cap) rfl
 have t5 : Turned (fun b => b = g ∨ b = w.heap.size) (w5.setCell ⟨w.heap.size, 0, none⟩ (.slice (some ⟨g, 0, none⟩) (l0.length + 1) cap)) ((((((w5.setCell ⟨w.heap.size, 0, none⟩ (.slice (some ⟨g, 0, none⟩) (l0.length + 1) cap)).setCell ⟨g, l0.length * 5, none⟩ (.int .i64 k9)).setCell ⟨g, l0.length * 5 + 1, none⟩ (.int .i64 n9)).setCell ⟨g, l0.length * 5 + 2, none⟩ (.int .i64 d9)).setCell ⟨g, l0.length * 5 + 3, none⟩ (.string s9)).setCell ⟨g, l0.length * 5 + 4, none⟩ (.slice o9 len9 cap9)) := ((((Turned.set _ _ _ (.inl rfl)).next (Turned.set _ _ _ (.inl rfl))).next (Turned.set _ _ _ (.inl rfl))).next (Turned.set _ _ _ (.inl rfl))).next (Turned.set _ _ _ (.inl rfl))
 have hR := row_five (.int .i64 k9) (.int .i64 n9) (.int .i64 d9) (.string s9) (.slice o9 len9 cap9) h2.out.length (row_turned h1.out t6 (fun b hb => by omega))
 have hb6 := ((((((h5.out.set 0 (.slice (some ⟨g, 0, none⟩) (l0.length + 1) cap)).other ⟨g, l0.length * 5, none⟩ (.int .i64 k9) (by simp; omega)).other ⟨g, l0.length * 5 + 1, none⟩ (.int .i64 n9) (by simp; omega)).other ⟨g, l0.length * 5 + 2, none⟩ (.int .i64 d9) (by simp; omega)).other ⟨g, l0.length * 5 + 3, none⟩ (.string s9) (by simp; omega)).other ⟨g, l0.length * 5 + 4, none⟩ (.slice o9 len9 cap9) (by simp; omega))
 exact read_inv hA hqa hq hlen hg hz h01 hbl ht4 hx1 hx2 hx3 hy h2 h3 h4 hR ((t6.wider fun b _ hb => .inr hb).next t5) hb6
def readD (s : ByteArray) : Option (List Dat) × Nat :=
 if 65536 < s.size then (none, 65536) else match Rd.A s.data.toList with
  | .ok l _ => (some l, s.size)
  | .bad q => (none, s.size - q.length)
def ReadPost (s : ByteArray) (w : World) (e : Ending) (w' : World) : Prop :=
 ∃ v, e = .returned (.tuple #[v, .int .i64 (readD s).2, .int .i64 (if (readD s).1.isSome then 0 else 2)]) ∧ RepS w' w'.heap.size ((readD s).1.getD []) v ∧ (∃ o len cap, v = .slice o len cap) ∧ Below w.heap.size w w'
theorem repS_nil (w : World) (B : Nat) : RepS w B [] (.slice none 0 0) := ⟨none, 0, 0, rfl, rfl, by omega, by omega, rfl, rfl⟩
theorem readD_ok {s : ByteArray} {l : List Dat} {q : List UInt8} (hs : s.size ≤ 65536) (h : Rd.A s.data.toList = .ok l q) : readD s = (some l, s.size) := by
 unfold readD; rw [if_neg (by omega), h]
theorem readD_bad {s : ByteArray} {q : List UInt8} (hs : s.size ≤ 65536) (h : Rd.A s.data.toList = .bad q) : readD s = (none, s.size - q.length) := by
 unfold readD; rw [if_neg (by omega), h]
theorem read_long (s : ByteArray) (w : World) (hs : 65536 < s.size) (hz : s.size ≤ 9223372036854775807) : Calls Tryd.prog 5 #[.string s] w (ReadPost s w) := by
 have hD : readD s = (none, 65536) := by unfold readD; rw [if_pos hs]
 have HD := Lib.hid hD
 clear hD
 go_enter_defers Tryd.func5, Tryd.ntmps5
 go_wp2_with fail
 refine ⟨.tuple #[.slice none 0 0, .int .i64 65536, .int .i64 2], by simp [results, Tryd.results5, go_sem], ?_⟩
 refine ⟨.slice none 0 0, by rw [HD.out]; rfl, by rw [HD.out]; exact repS_nil _ _, ⟨_, _, _, rfl⟩, ?_⟩
 exact ((Below.one w _).trans ((Below.one _ _).mono (by simp))).trans ((Below.one _ _).mono (by simp; omega))
theorem read_short (s : ByteArray) (w : World) (hs : s.size ≤ 65536) : Calls Tryd.prog 5 #[.string s] w (ReadPost s w) := by
 have hmf : ∀ (fn : Fn) (first cap : Array Value) (w : World), (Instr.makeFunc fn first cap).run Tryd.prog w = .ok (.func fn first cap) w := fun _ _ _ _ => rfl
 go_enter_defers Tryd.func5, Tryd.ntmps5
 go_wp2_with fail
 obtain ⟨W0, hW0⟩ : ∃ W0, (((w.alloc (.cells #[.slice none 0 0] 23)).alloc (.cells #[.int .i64 0] 3)).alloc (.cells #[.int .i64 0] 24)).alloc (.cells #[.string s, .int .i64 0] 35) = W0 := ⟨_, rfl⟩
 have HI := Lib.hid (show ∃ (a' : Nat) (r' : List UInt8) (l0 : List Dat) (lv : Value), PB W0 (w.heap.size + 1 + 1 + 1) s a' ∧ Rd.At s a' r' ∧ BoxL W0 w.heap.size 23 [lv] ∧ BoxL W0 (w.heap.size + 1) 3 [.int .i64 0] ∧ BoxL W0 (w.heap.size + 1 + 1) 24 [.int .i64 0] ∧ GrownH W0 (w.heap.size + 4) (w.heap.size + 4) l0 lv ∧ Rd.A s.data.toList = (Rd.A r').map (l0 ++ ·) ∧ r'.length ≤ s.size ∧ l0.length + r'.length ≤ s.size ∧ Below w.heap.size w W0 from by
  have hb0 : Below w.heap.size w W0 := by rw [← hW0]; exact (((Below.one w _).trans ((Below.one _ _).mono (by simp))).trans ((Below.one _ _).mono (by simp; omega))).trans ((Below.one _ _).mono (by simp; omega))
  refine ⟨0, s.data.toList, [], .slice none 0 0, ?_, Rd.At.zero s, ?_, ?_, ?_, GrownH.nil _ (Nat.le_refl _), ?_, Nat.le_refl _, ?_, hb0⟩
  ·rw [← hW0]; exact BoxL.new (by simp) _ _
  ·rw [← hW0]; exact (((BoxL.new rfl _ _).alloc _).alloc _).alloc _
  ·rw [← hW0]; exact ((BoxL.new (by simp) _ _).alloc _).alloc _
  ·rw [← hW0]; exact (BoxL.new (by simp) _ _).alloc _
  ·cases Rd.A s.data.toList <;> rfl
  ·simp only [List.length_nil, Nat.zero_add]; exact Nat.le_refl _)
 rw [hW0]
 clear hW0
 go_loopg [] s.size (fun g wr => Hid (∃ (a' : Nat) (r' : List UInt8) (l0 : List Dat) (lv : Value), PB wr (w.heap.size + 1 + 1 + 1) s a' ∧ Rd.At s a' r' ∧ BoxL wr w.heap.size 23 [lv] ∧ BoxL wr (w.heap.size + 1) 3 [.int .i64 0] ∧ BoxL wr (w.heap.size + 1 + 1) 24 [.int .i64 0] ∧ GrownH wr (w.heap.size + 4) (w.heap.size + 4) l0 lv ∧ Rd.A s.data.toList = (Rd.A r').map (l0 ++ ·) ∧ r'.length ≤ g ∧ l0.length + r'.length ≤ s.size ∧ Below w.heap.size w wr))
 case atStart => exact HI
 case round =>
  obtain ⟨a1, r1, l0, lv, hp1, hat1, hb0, hb1, hb2, hg1, hA, hle, hlen, hbl⟩ := hrel.out
  clear hrel HI
  have hC := pblanks_any _ s a1 r1 wr hp1 hat1 hs
  have hq := hat1.suf (Rd.skip_suf r1 false)
  have hql := Rd.skip_le r1 false
  obtain ⟨o3, len3, cap3, hv3, hl3⟩ := hg1.form
  subst hv3
  have HLN := Lib.hid hl3
  have HG := Lib.hid hg1
  have HB0 := Lib.hid hb0
  have HB1 := Lib.hid hb1
  have HB2 := Lib.hid hb2
  have HBL := Lib.hid hbl
  have hzl := hp1.lt
  clear hl3
  cases hsk : Rd.skip false r1 with
  | nil =>
   rw [hsk] at hC
   have hd : decide (s.size - ([] : List UInt8).length < s.size) = false := by simp
   rw [hd] at hC
   have HC := Lib.hid hC
   have HD := Lib.hid (readD_ok (l := l0) (q := []) hs (by rw [hA, Rd.A_nil hsk]; simp [Rd.Res.map]))
   clear hC hq hql hp1 hat1 hb0 hb1 hb2 hg1 hA hbl hsk hd
   go_wp2_with (first | (go_at_call 8; refine HC.out.mono ?_; rintro e' w1 ⟨rfl, hgo⟩; have b0 := hgo.2.box HB0.out (show ¬ w.heap.size = w.heap.size + 1 + 1 + 1 from by omega); have b1 := hgo.2.box HB1.out (show ¬ w.heap.size + 1 = w.heap.size + 1 + 1 + 1 from by omega); have b2 := hgo.2.box HB2.out (show ¬ w.heap.size + 1 + 1 = w.heap.size + 1 + 1 + 1 from by omega); have q0 := b0.cell 0 rfl; have q1 := b1.cell 0 rfl; have q2 := b2.cell 0 rfl; have z0 := b0.free 0; have z1 := b1.free 0; have z2 := b2.free 0; have y0 := b0.lt; have y1 := b1.lt; have y2 := b2.lt; have HGO := Lib.hid hgo; have HX0 := Lib.hid b0; have HX1 := Lib.hid b1; have HX2 := Lib.hid b2; clear hgo b0 b1 b2))
   refine leaves_cons (f := 7) (args := #[.pointer (some ⟨w.heap.size, 0, none⟩), .pointer (some ⟨w.heap.size + 1, 0, none⟩), .pointer (some ⟨w.heap.size + 1 + 1, 0, none⟩)]) (by simp) (by simp [go_sem]) ?_
   refine (pread1_idle _ _ _ _).mono ?_
   rintro e u' w'' ⟨rfl, rfl, rfl⟩
   have r0 := ((((HX0.out.set 0 (.slice o3 len3 cap3)).other ⟨w.heap.size + 1, 0, none⟩ (.int .i64 s.size) (by simp)).other ⟨w.heap.size + 1 + 1, 0, none⟩ (.int .i64 0) (by simp; omega)))
   have r1 := ((((HX1.out.other ⟨w.heap.size, 0, none⟩ (.slice o3 len3 cap3) (by simp)).set 0 (.int .i64 s.size)).other ⟨w.heap.size + 1 + 1, 0, none⟩ (.int .i64 0) (by simp)))
   have r2 := ((((HX2.out.other ⟨w.heap.size, 0, none⟩ (.slice o3 len3 cap3) (by simp; omega)).other ⟨w.heap.size + 1, 0, none⟩ (.int .i64 s.size) (by simp)).set 0 (.int .i64 0)))
   have e0 := r0.cell 0 rfl
   have e1 := r1.cell 0 rfl
   have e2 := r2.cell 0 rfl
   simp [Leaves, settle, results, Tryd.results5, go_sem, e0, e1, e2]
   have ht3 : Turned (fun c => c = w.heap.size ∨ c = w.heap.size + 1 ∨ c = w.heap.size + 1 + 1) w1 (((w1.setCell ⟨w.heap.size, 0, none⟩ (.slice o3 len3 cap3)).setCell ⟨w.heap.size + 1, 0, none⟩ (.int .i64 s.size)).setCell ⟨w.heap.size + 1 + 1, 0, none⟩ (.int .i64 0)) := ((Turned.set _ _ _ (.inl rfl)).next (Turned.set _ _ _ (.inr (.inl rfl)))).next (Turned.set _ _ _ (.inr (.inr rfl)))
   have hg3 := (HG.out.turned HGO.out.2 (fun q _ hq => by unfold Lo; omega)).turned ht3 (fun q _ hq => by unfold Lo; omega)
   refine ⟨_, by rw [HD.out]; rfl, by rw [HD.out]; exact hg3.rep.unhide, ⟨_, _, _, rfl⟩, (HBL.out.trans (HGO.out.2.below (fun q hq => by omega) HBL.out.size)).trans (ht3.below (fun q hq => by omega) (by omega))⟩
  | cons c t =>
   rw [hsk] at hC hq hql
   simp only [List.length_cons] at hql
   have hd : decide (s.size - (c :: t).length < s.size) = true := by have := hq.1; simp only [List.length_cons, decide_eq_true_eq] at this ⊢; omega
   rw [hd] at hC
   obtain ⟨k, hk⟩ : ∃ k, s.size - (c :: t).length = k := ⟨_, rfl⟩
   have hqk : Rd.At s k (c :: t) := by rw [← hk]; exact hq
   have hDk : ∀ W, PB W (w.heap.size + 1 + 1 + 1) s k → Calls Tryd.prog 9 #[.pointer (some ⟨w.heap.size + 1 + 1 + 1, 0, none⟩)] W (PDat (w.heap.size + 1 + 1 + 1) s (Rd.D (c :: t)) W) := fun W hW => pdatum_ok _ _ s k (c :: t) W (Nat.lt_succ_self _) hW hqk hs
   have HC := Lib.hid hC
   have HK := Lib.hid hk
   have hgood := Rd.D_good (c :: t)
   have hAc := Rd.A_cons hsk
   clear hC hd
   cases hD : Rd.D (c :: t) with
   | bad q =>
    rw [hD] at hDk hAc
    have HD := Lib.hid (readD_bad (q := q) hs (by rw [hA, hAc]; rfl))
    have HDK := Lib.hid hDk
    clear hDk hq hql hp1 hat1 hb0 hb1 hb2 hg1 hA hbl hsk hAc hD hgood hqk hk
    go_wp2_with (first | (go_at_call 8; refine HC.out.mono ?_; rintro e' w1 ⟨rfl, hgo⟩; have hp9 := hgo.1; rw [HK.out] at hp9; have g1 := hp9.cell 1 rfl; have gl := hp9.lt; have HGO := Lib.hid hgo; have HP9 := Lib.hid hp9; clear hgo hp9) | (go_at_call 9; refine (HDK.out _ HP9.out).mono ?_; rintro e' w2 ⟨rfl, ht2⟩))
    refine leaves_cons (f := 7) (args := #[.pointer (some ⟨w.heap.size, 0, none⟩), .pointer (some ⟨w.heap.size + 1, 0, none⟩), .pointer (some ⟨w.heap.size + 1 + 1, 0, none⟩)]) (by simp) (by simp [go_sem]) ?_
    have hT2 := HGO.out.2.next ht2
    have b0 := hT2.box HB0.out (show ¬ w.heap.size = w.heap.size + 1 + 1 + 1 from by omega)
    have b1 := hT2.box HB1.out (show ¬ w.heap.size + 1 = w.heap.size + 1 + 1 + 1 from by omega)
    have b2 := hT2.box HB2.out (show ¬ w.heap.size + 1 + 1 = w.heap.size + 1 + 1 + 1 from by omega)
    refine (pread1_panic (s.size - q.length) _ _ _ _ 0 0 _ b0 b1 b2).mono ?_
    rintro e u' w'' ⟨rfl, rfl, r0, r1, r2, ht3⟩
    have e0 := r0.cell 0 rfl
    have e1 := r1.cell 0 rfl
    have e2 := r2.cell 0 rfl
    simp [Leaves, settle, results, Tryd.results5, go_sem, e0, e1, e2]
    exact ⟨.slice none 0 0, by rw [HD.out]; rfl, by rw [HD.out]; exact repS_nil _ _, ⟨_, _, _, rfl⟩, (HBL.out.trans (hT2.below (fun q hq => by omega) HBL.out.size)).trans (ht3.below (fun q hq => by omega) (by have := hT2.size; omega))⟩
   | ok x q =>
    rw [hD] at hDk hAc hgood
    have HDK := Lib.hid hDk
    have HQA := Lib.hid (hqk.suf hgood.1)
    have hql2 : q.length < r1.length := by have := hgood.2; simp only [List.length_cons] at this; omega
    have HAC := Lib.hid (show Rd.A s.data.toList = (if Dat.right x 0 = true then (Rd.A q).map (x :: ·) else .bad (c :: t)).map (l0 ++ ·) from by rw [hA, hAc])
    clear hDk hq hql hp1 hat1 hb0 hb1 hb2 hg1 hA hbl hsk hAc hD hgood hqk hk
    go_upto_region 8 with (first | (go_at_call 8; refine HC.out.mono ?_; rintro e' w1 ⟨rfl, hgo⟩; have hp9 := hgo.1; rw [HK.out] at hp9; have g1 := hp9.cell 1 rfl; have gl := hp9.lt; have HGO := Lib.hid hgo; have HP9 := Lib.hid hp9; clear hgo hp9) | (go_at_call 9; refine (HDK.out _ HP9.out).mono ?_; rintro e' w2 ⟨v, rfl, hrep, hgo2⟩; obtain ⟨k9, n9, d9, s9, o9, len9, cap9, rfl⟩ := agg_of hrep.unhide; have HREP := Lib.hid hrep; have HGO2 := Lib.hid hgo2; clear hrep hgo2 g1 gl))
    have hb3 : Box5 (w2.alloc (.cells #[.int .i64 k9, .int .i64 n9, .int .i64 d9, .string s9, .slice o9 len9 cap9] 30)) w2.heap.size 30 (.int .i64 k9) (.int .i64 n9) (.int .i64 d9) (.string s9) (.slice o9 len9 cap9) := Box5.new w2 _ _ _ _ _ _
    have hr3 : RepD (hide (w2.alloc (.cells #[.int .i64 k9, .int .i64 n9, .int .i64 d9, .string s9, .slice o9 len9 cap9] 30)) (Lo w1.heap.size)) (w2.alloc (.cells #[.int .i64 k9, .int .i64 n9, .int .i64 d9, .string s9, .slice o9 len9 cap9] 30)).heap.size x (.agg #[.int .i64 k9, .int .i64 n9, .int .i64 d9, .string s9, .slice o9 len9 cap9]) := HREP.out.shown (Shown.below (Below.one w2 _)) (by simp)
    have hT3 : Turned (fun c => c = w.heap.size + 1 + 1 + 1) wr (w2.alloc (.cells #[.int .i64 k9, .int .i64 n9, .int .i64 d9, .string s9, .slice o9 len9 cap9] 30)) := (HGO.out.2.next HGO2.out.2).next (Turned.of_below (Below.one w2 _))
    have hP3 : PB (w2.alloc (.cells #[.int .i64 k9, .int .i64 n9, .int .i64 d9, .string s9, .slice o9 len9 cap9] 30)) (w.heap.size + 1 + 1 + 1) s (s.size - q.length) := BoxL.alloc HGO2.out.1 _
    have hn1 : w1.heap.size ≤ w2.heap.size := HGO2.out.2.size
    have hn0 : wr.heap.size ≤ w1.heap.size := HGO.out.2.size
    generalize w2.alloc (.cells #[.int .i64 k9, .int .i64 n9, .int .i64 d9, .string s9, .slice o9 len9 cap9] 30) = W3 at hb3 hr3 hT3 hP3 ⊢
    obtain ⟨d0, d1, d2, d3, d4⟩ := hb3.cells
    have dl := hb3.lt
    have HB3 := Lib.hid hb3
    have HR3 := Lib.hid hr3
    have HT3 := Lib.hid hT3
    have HP3 := Lib.hid hP3
    have hRt := fun W (hW : Below W3.heap.size W3 W) => dright_any x (.agg #[.int .i64 k9, .int .i64 n9, .int .i64 d9, .string s9, .slice o9 len9 cap9]) W3.heap.size W (hr3.unhide.kept hW) hW.size
    clear hb3 hr3 hT3 hP3
    cases hri : Dat.right x 0 with
    | false =>
     rw [hri] at hRt
     have HRT := Lib.hid hRt
     have HD := Lib.hid (readD_bad (q := c :: t) hs (by rw [HAC.out, hri]; rfl))
     clear hRt hri
     go_wp2_with (first | (go_at_call 10; refine (HRT.out _ (Below.self _)).mono ?_; rintro e' w4 ⟨rfl, hb4⟩))
     refine leaves_cons (f := 7) (args := #[.pointer (some ⟨w.heap.size, 0, none⟩), .pointer (some ⟨w.heap.size + 1, 0, none⟩), .pointer (some ⟨w.heap.size + 1 + 1, 0, none⟩)]) (by simp) (by simp [go_sem]) ?_
     have hT2 := HT3.out.next (Turned.of_below hb4)
     have b0 := hT2.box HB0.out (show ¬ w.heap.size = w.heap.size + 1 + 1 + 1 from by omega)
     have b1 := hT2.box HB1.out (show ¬ w.heap.size + 1 = w.heap.size + 1 + 1 + 1 from by omega)
     have b2 := hT2.box HB2.out (show ¬ w.heap.size + 1 + 1 = w.heap.size + 1 + 1 + 1 from by omega)
     refine (pread1_panic k _ _ _ _ 0 0 _ b0 b1 b2).mono ?_
     rintro e u' w'' ⟨rfl, rfl, r0, r1, r2, ht3⟩
     have e0 := r0.cell 0 rfl
     have e1 := r1.cell 0 rfl
     have e2 := r2.cell 0 rfl
     simp [Leaves, settle, results, Tryd.results5, go_sem, e0, e1, e2]
     exact ⟨.slice none 0 0, by rw [HD.out, HK.out]; rfl, by rw [HD.out]; exact repS_nil _ _, ⟨_, _, _, rfl⟩, (HBL.out.trans (hT2.below (fun q hq => by omega) HBL.out.size)).trans (ht3.below (fun q hq => by omega) (by have := hT2.size; omega))⟩
    | true =>
     rw [hri] at hRt
     have HRT := Lib.hid hRt
     have HA2 := Lib.hid (show Rd.A s.data.toList = (Rd.A q).map ((l0 ++ [x]) ++ ·) from by
      rw [HAC.out, hri, if_pos rfl]
      cases Rd.A q <;> simp [Rd.Res.map])
     clear hRt hri
     go_upto_region 10 with (first | (go_at_call 10; refine (HRT.out _ (Below.self _)).mono ?_; rintro e' w4 ⟨rfl, hb4⟩))
     have hT4 := HT3.out.next (Turned.of_below hb4)
     have HT4 := Lib.hid hT4
     have HB4 := Lib.hid hb4
     have HG4 := Lib.hid (HG.out.turned hT4 (fun q _ hq => by unfold Lo; omega))
     have HX0 := Lib.hid (hT4.box HB0.out (show ¬ w.heap.size = w.heap.size + 1 + 1 + 1 from by omega))
     have HX1 := Lib.hid (hT4.box HB1.out (show ¬ w.heap.size + 1 = w.heap.size + 1 + 1 + 1 from by omega))
     have HX2 := Lib.hid (hT4.box HB2.out (show ¬ w.heap.size + 1 + 1 = w.heap.size + 1 + 1 + 1 from by omega))
     have HX3 := Lib.hid (show PB w4 (w.heap.size + 1 + 1 + 1) s (s.size - q.length) from BoxL.keep HP3.out hb4)
     have HX4 := Lib.hid (show Box5 w4 w2.heap.size 30 (.int .i64 k9) (.int .i64 n9) (.int .i64 d9) (.string s9) (.slice o9 len9 cap9) from (hb4.block _ HB3.out.lt).trans HB3.out)
     have HR4 := Lib.hid (HR3.out.shown (Shown.below hb4) hb4.size)
     clear hT4 hb4 d0 d1 d2 d3 d4 dl
     rename_i hq0 KE aE JJ K2 aJ aK
     have hlen6 : l0.length ≤ 1000000 := by omega
     have hsz4 : w.heap.size + 4 ≤ w4.heap.size := by have := HT4.out.size; omega
     obtain ⟨d0, d1, d2, d3, d4⟩ := HX4.out.cells
     have x0 := HX0.out.cell 0 rfl
     have x1 := HX0.out.lt
     have dl := HX4.out.lt
     refine Code.wp_mono (Q := fun e a' w' => match e with | .normal => K2 a' w' | _ => False) ?_ ?_
     ·intro e a' w' h
      cases e with
      | normal => exact h
      | _ => exact h.elim
     have hl3 : ((len3 : Nat) : Int) = (l0.length : Int) := by rw [HLN.out]
     have hlt7 : ∀ m : Int, (m < m + 1) = True := fun m => by simp only [eq_iff_iff, iff_true]; omega
     go_region_law (refine step_append_zero rfl (.tmp 29) (.tmp 32) rfl (w.heap.size + 4) (w.heap.size + 4) l0 (.slice o3 len3 cap3) rfl HG4 w.heap.size 23 (.slice o3 len3 cap3) HX0 (by omega) rfl hlen6 hsz4 ?_; intro g cap w5 xs H1 H2 H3 H4 H5 c0 c1 c2 c3 c4 z0 z1 z2 z3 z4 b0 bz hltg hgl)
     all_goals (refine aK _ _ ?_; go_roundg q.length)
     all_goals first
      | (case measure => omega)
      | ((with_reducible refine read_inv1 HA2 HQA ?_ ?_ HG ?_ hn0 HBL HT4 HX1 HX2 HX3 HR4 H2 H3 H4 H1 H5 hltg) <;> omega)
      | ((with_reducible refine read_inv2 HA2 HQA ?_ ?_ HG ?_ hn0 HBL HT4 HX1 HX2 HX3 HR4 H2 H3 H4 H1 H5 hltg) <;> omega)
      | fail
theorem read_any (s : ByteArray) (w : World) (hz : s.size ≤ 9223372036854775807) : Calls Tryd.prog 5 #[.string s] w (ReadPost s w) := by
 by_cases h : s.size ≤ 65536
 ·exact read_short s w h
 ·exact read_long s w (by omega) hz
end
section
open Go Go.RowKit
namespace Rd
open Dat
def ex1 : Dat := pair (symD [97]) (quoted (symD [98]))
def ex2 : Dat := mk 7 0 0 emptyB [numD 1 1]
theorem text_ex1 : text ex1 false = [40, 97, 32, 113, 117, 111, 116, 101, 32, 98, 41] := by
 simp [ex1, symD, quoted, quoteD, Dat.list, Dat.pair, Dat.null, Dat.text, Dat.textP, Dat.textA]
theorem text_ex2 : text ex2 false = [35, 40, 49, 41] := by
 have h1 : Num.text 1 1 = [49] := by decide +kernel
 simp [ex2, numD, Dat.text, Dat.textA, Dat.textV, h1]
theorem full_ex1 : full ex1 = [40, 97, 32, 113, 117, 111, 116, 101, 32, 98, 41] := by rw [full, if_pos (by decide +kernel), text_ex1]
theorem full_ex2 : full ex2 = [35, 40, 49, 41] := by rw [full, if_pos (by decide +kernel), text_ex2]
theorem len_ex1 : (text ex1 false).length ≤ 140737488355328 := by rw [text_ex1]; decide
theorem len_ex2 : (text ex2 false).length ≤ 140737488355328 := by rw [text_ex2]; decide
end Rd
theorem readD_ex1 : readD ⟨#[40, 97, 32, 46, 32, 39, 98, 41, 32, 35, 40, 49, 41]⟩ = (some [Rd.ex1, Rd.ex2], 13) := readD_ok (s := ⟨#[40, 97, 32, 46, 32, 39, 98, 41, 32, 35, 40, 49, 41]⟩) (by decide) Rd.A_example1
theorem readD_ex2 : readD ⟨#[40, 46, 32, 97, 41]⟩ = (none, 1) := readD_bad (s := ⟨#[40, 46, 32, 97, 41]⟩) (by decide) Rd.A_example2
def ReadEx1 (w : World) (e : Ending) (w' : World) : Prop :=
 ∃ (b off cap : Nat) (k1 n1 d1 : Int) (s1 : ByteArray) (o1 : Option Addr) (l1 c1 : Nat) (k2 n2 d2 : Int) (s2 : ByteArray) (o2 : Option Addr) (l2 c2 : Nat), e = .returned (.tuple #[.slice (some ⟨b, off, none⟩) 2 cap, .int .i64 13, .int .i64 0]) ∧ Below w.heap.size w w' ∧ b < w'.heap.size ∧
  RepD w' w'.heap.size Rd.ex1 (.agg #[.int .i64 k1, .int .i64 n1, .int .i64 d1, .string s1, .slice o1 l1 c1]) ∧ RepD w' w'.heap.size Rd.ex2 (.agg #[.int .i64 k2, .int .i64 n2, .int .i64 d2, .string s2, .slice o2 l2 c2]) ∧
  (w'.cell? ⟨b, off, none⟩ = some (.int .i64 k1) ∧ w'.cell? ⟨b, off + 1, none⟩ = some (.int .i64 n1) ∧ w'.cell? ⟨b, off + 2, none⟩ = some (.int .i64 d1) ∧ w'.cell? ⟨b, off + 3, none⟩ = some (.string s1) ∧ w'.cell? ⟨b, off + 4, none⟩ = some (.slice o1 l1 c1)) ∧
  (w'.cell? ⟨b, off + 5, none⟩ = some (.int .i64 k2) ∧ w'.cell? ⟨b, off + 6, none⟩ = some (.int .i64 n2) ∧ w'.cell? ⟨b, off + 7, none⟩ = some (.int .i64 d2) ∧ w'.cell? ⟨b, off + 8, none⟩ = some (.string s2) ∧ w'.cell? ⟨b, off + 9, none⟩ = some (.slice o2 l2 c2))
theorem read_ex1 (w : World) : Calls Tryd.prog 5 #[.string ⟨#[40, 97, 32, 46, 32, 39, 98, 41, 32, 35, 40, 49, 41]⟩] w (ReadEx1 w) := by
 refine (read_any _ w (by decide)).mono ?_
 rintro e w' ⟨v, rfl, hr, ⟨o, len, cap, rfl⟩, hb⟩
 rw [readD_ex1] at hr ⊢
 obtain ⟨o5, len5, cap5, he5, hl5, hc5, hm5, hm6⟩ := hr
 simp only [Value.slice.injEq] at he5
 obtain ⟨rfl, rfl, rfl⟩ := he5
 obtain ⟨bb, off, k1, n1, d1, s1, m1, o1, l1, c1, ho, hx1, e0, e1, e2, e3, e4, er⟩ := part_at2 hm6 (Below.refl _ w') (j := 0) rfl
 obtain ⟨bb2, off2, k2, n2, d2, s2, m2, o2, l2, c2, ho2, hx2, f0, f1, f2, f3, f4, fr⟩ := part_at2 hm6 (Below.refl _ w') (j := 1) rfl
 subst ho
 simp only [Option.some.injEq, Addr.mk.injEq, and_true] at ho2
 obtain ⟨rfl, rfl⟩ := ho2
 have hl2 : len = 2 := hl5
 subst hl2
 refine ⟨bb, off, cap, k1, n1, d1, s1, o1, l1, c1, k2, n2, d2, s2, o2, l2, c2, rfl, hb, cell_lt e0, hx1 ▸ er, hx2 ▸ fr, ⟨by simpa using e0, by simpa using e1, by simpa using e2, by simpa using e3, by simpa using e4⟩, ⟨by simpa using f0, by simpa using f1, by simpa using f2, by simpa using f3, by simpa using f4⟩⟩
theorem read_ex2 (w : World) : Calls Tryd.prog 5 #[.string ⟨#[40, 46, 32, 97, 41]⟩] w fun e w' => ∃ v, e = .returned (.tuple #[v, .int .i64 1, .int .i64 2]) ∧ Below w.heap.size w w' := by
 refine (read_any _ w (by decide)).mono ?_
 rintro e w' ⟨v, rfl, hr, ⟨o, len, cap, rfl⟩, hb⟩
 rw [readD_ex2]
 exact ⟨_, rfl, hb⟩
theorem read_ok {s : ByteArray} {l : List Dat} {p : Nat} (h : readD s = (some l, p)) (hz : s.size ≤ 9223372036854775807) (w : World) : Calls Tryd.prog 5 #[.string s] w fun e w' => ∃ o len cap, e = .returned (.tuple #[.slice o len cap, .int .i64 p, .int .i64 0]) ∧ RepS w' w'.heap.size l (.slice o len cap) ∧ Below w.heap.size w w' := by
 refine (read_any s w hz).mono ?_
 rintro e w' ⟨v, rfl, hr, ⟨o, len, cap, rfl⟩, hb⟩
 rw [h] at hr ⊢
 exact ⟨o, len, cap, rfl, hr, hb⟩
theorem read_no {s : ByteArray} {p : Nat} (h : readD s = (none, p)) (hz : s.size ≤ 9223372036854775807) (w : World) : Calls Tryd.prog 5 #[.string s] w fun e w' => ∃ o len cap, e = .returned (.tuple #[.slice o len cap, .int .i64 p, .int .i64 2]) ∧ RepS w' w'.heap.size [] (.slice o len cap) ∧ Below w.heap.size w w' := by
 refine (read_any s w hz).mono ?_
 rintro e w' ⟨v, rfl, hr, ⟨o, len, cap, rfl⟩, hb⟩
 rw [h] at hr ⊢
 exact ⟨o, len, cap, rfl, hr, hb⟩
namespace Rd
open Dat
end Rd
end
section
open Go Go.RowKit
theorem awake3_any (w : World) (hE : Env w) : Calls Tryd.prog 4 #[] w fun e w' => e = .returned (.bool true) ∧ Below w.heap.size w w' := by
 have HE := Lib.hid hE
 clear hE
 go_enter Tryd.func4, Tryd.ntmps4
 go_upto_region 2 with (first | (go_at_call 5; refine (read_ex1 _).mono ?_; rintro e' w1 ⟨b, off, cap, k1, n1, d1, s1, o1, l1, c1, k2, n2, d2, s2, o2, l2, c2, rfl, hb1, hlt, hr1, hr2, e1, e2⟩))
 have HB1 := Lib.hid hb1
 have HR1 := Lib.hid hr1
 have HR2 := Lib.hid hr2
 have HE1 := Lib.hid e1
 have HE2 := Lib.hid e2
 clear hb1 hr1 hr2 e1 e2
 go_upto_region 3 with (first | (go_at_call 5; refine (read_ex2 _).mono ?_; rintro e' w2 ⟨v2, rfl, hb2⟩))
 have key : ∀ W, Below w1.heap.size w1 W → (W.cell? ⟨b, off, none⟩ = some (.int .i64 k1) ∧ W.cell? ⟨b, off + 1, none⟩ = some (.int .i64 n1) ∧ W.cell? ⟨b, off + 2, none⟩ = some (.int .i64 d1) ∧ W.cell? ⟨b, off + 3, none⟩ = some (.string s1) ∧ W.cell? ⟨b, off + 4, none⟩ = some (.slice o1 l1 c1)) ∧
  (W.cell? ⟨b, off + 5, none⟩ = some (.int .i64 k2) ∧ W.cell? ⟨b, off + 6, none⟩ = some (.int .i64 n2) ∧ W.cell? ⟨b, off + 7, none⟩ = some (.int .i64 d2) ∧ W.cell? ⟨b, off + 8, none⟩ = some (.string s2) ∧ W.cell? ⟨b, off + 9, none⟩ = some (.slice o2 l2 c2)) := fun W hW => by
  have g : ∀ i, W.cell? ⟨b, i, none⟩ = w1.cell? ⟨b, i, none⟩ := fun i => hW.cell (p := ⟨b, i, none⟩) hlt
  simp only [g]
  exact ⟨HE1.out, HE2.out⟩
 have HKEY := Lib.hid key
 have t1 : ∀ W, Below w1.heap.size w1 W → Calls Tryd.prog 6 #[.agg #[.int .i64 k1, .int .i64 n1, .int .i64 d1, .string s1, .slice o1 l1 c1]] W fun e w' => e = .returned (.string ⟨#[40, 97, 32, 113, 117, 111, 116, 101, 32, 98, 41]⟩) ∧ Below W.heap.size W w' := fun W hW => by
  refine (dtext_any Rd.ex1 _ w1.heap.size W (HR1.out.kept hW) hW.size (env_kept (env_kept HE.out HB1.out) hW) (fun _ => Rd.len_ex1)).mono fun e w' h => ⟨?_, h.2⟩
  rw [h.1, Rd.full_ex1]
 have t2 : ∀ W, Below w1.heap.size w1 W → Calls Tryd.prog 6 #[.agg #[.int .i64 k2, .int .i64 n2, .int .i64 d2, .string s2, .slice o2 l2 c2]] W fun e w' => e = .returned (.string ⟨#[35, 40, 49, 41]⟩) ∧ Below W.heap.size W w' := fun W hW => by
  refine (dtext_any Rd.ex2 _ w1.heap.size W (HR2.out.kept hW) hW.size (env_kept (env_kept HE.out HB1.out) hW) (fun _ => Rd.len_ex2)).mono fun e w' h => ⟨?_, h.2⟩
  rw [h.1, Rd.full_ex2]
 have HT1 := Lib.hid t1
 have HT2 := Lib.hid t2
 obtain ⟨⟨g0, g1, g2, g3, g4⟩, _⟩ := HKEY.out _ hb2
 have HB2 := Lib.hid hb2
 clear key t1 t2 hb2
 go_wp2_with (first | (go_at_call 6; (with_reducible refine (HT1.out _ HB2.out).mono ?_); rintro e' w3 ⟨rfl, hb3⟩; have hb3' := Below.next HB2.out hb3; clear g0 g1 g2 g3 g4 hb3; obtain ⟨_, ⟨j0, j1, j2, j3, j4⟩⟩ := HKEY.out _ hb3'; have HB3 := Lib.hid hb3'; clear hb3') | (go_at_call 6; (with_reducible refine (HT2.out _ HB3.out).mono ?_); rintro e' w4 ⟨rfl, hb4⟩; have HB4 := Lib.hid (Below.next HB3.out hb4); clear hb4))
 go_ret
 exact ⟨rfl, Below.next HB1.out HB4.out⟩
end
end Go.Proofs.YtpcneeekmhdhgaaDoor

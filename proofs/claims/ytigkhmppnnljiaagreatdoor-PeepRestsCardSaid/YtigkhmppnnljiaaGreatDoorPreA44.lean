/-
  What the proofs lean on: TrmS, Zj.
-/
import Derived.Test.YtigkhmppnnljiaaGreatDoorPreA18
import Derived.Test.YtigkhmppnnljiaaGreatDoorPreA34
import Derived.Test.YtigkhmppnnljiaaGreatDoorPreA42
import Derived.Test.YtigkhmppnnljiaaGreatDoorPreA43
set_option maxRecDepth 100000
set_option maxHeartbeats 16000000
namespace Go.Proofs.YtigkhmppnnljiaaGreatDoor
section
open Go Go.RowKit Go.Deep Go.ChangeShapes Go.WideShapes Go.ChangeAt
theorem Trm.slimL_iff : ∀ {l : List Trm}, Trm.slimL l ↔ ∀ x ∈ l, Trm.slim x
 | [] => by simp [Trm.slimL]
 | y :: l => by rw [Trm.slimL, Trm.slimL_iff (l := l)]; simp
section
variable {H : Type} {enc : TypeId × Value → H}
theorem trmS_of_trod {w : World} : ∀ (fuel : Nat) (cs : List Value) (y : DataW H × List MemPlace), DataW.trod enc Tryz.prog w 0 (fun _ => true) true fuel 41 cs = some y → (∀ n ∈ y.1.weights Tryz.prog 41, n ≤ reachBytes) → ∃ x, TrmR w w.heap.size x cs ∧ x.slim := by
 intro fuel
 induction fuel using Nat.strongRecOn with
 | _ fuel ih =>
  intro cs y h hw
  obtain ⟨xs, n, hn, rfl, hlen, hxs, hget⟩ := DataW.trod_struct Tryz.underlying41 h
  rw [show Tryz.prog.cellsOf 41 = 4 by kernel_rfl] at hlen
  match cs, hlen with
  | [c0, c1, c2, c3], _ =>
   have g0 : DataW.trod enc Tryz.prog w 0 (fun _ => true) true n 3 (([c0, c1, c2, c3].drop 0).take (Tryz.prog.cellsOf 3)) = xs[0]? := hget 0 _ rfl
   have g1 : DataW.trod enc Tryz.prog w 0 (fun _ => true) true n 3 (([c0, c1, c2, c3].drop 1).take (Tryz.prog.cellsOf 3)) = xs[1]? := hget 1 _ rfl
   have g2 : DataW.trod enc Tryz.prog w 0 (fun _ => true) true n 32 (([c0, c1, c2, c3].drop 2).take (Tryz.prog.cellsOf 32)) = xs[2]? := hget 2 _ rfl
   have g3 : DataW.trod enc Tryz.prog w 0 (fun _ => true) true n 39 (([c0, c1, c2, c3].drop 3).take (Tryz.prog.cellsOf 39)) = xs[3]? := hget 3 _ rfl
   rw [cells_int] at g0 g1
   rw [show Tryz.prog.cellsOf 32 = 1 by kernel_rfl] at g2
   rw [show Tryz.prog.cellsOf 39 = 1 by kernel_rfl] at g3
   have hx4 : xs.length = 4 := hxs
   match xs, hx4 with
   | [x0, x1, x2, x3], _ =>
    obtain ⟨k, e0, _, w0⟩ := DataW.trod_int Tryz.underlying3 (show _ = some x0 from g0)
    obtain ⟨m, e1, _, w1⟩ := DataW.trod_int Tryz.underlying3 (show _ = some x1 from g1)
    have f0 : c0 = .int .i64 k := by simpa using e0
    have f1 : c1 = .int .i64 m := by simpa using e1
    subst f0 f1
    have we : ∀ (i : Nat) (t : TypeId) (z : DataW H), [3, 3, 32, 39][i]? = some t → [x0.1, x1.1, x2.1, x3.1][i]? = some z → ∀ n ∈ z.weights Tryz.prog t, n ≤ reachBytes := by
     intro i t z ht hz q hq
     refine hw q ?_
     show q ∈ DataW.weights Tryz.prog 41 (.agg _)
     simp only [DataW.weights, Tryz.underlying41]
     exact weightsEach_mem i ht hz q hq
    obtain ⟨l, hl⟩ := ints_of_trod n c2 x2 (show _ = some x2 from g2) (we 2 32 _ rfl rfl)
    obtain ⟨o2, n2, k2, rfl⟩ := hl.form
    have hs : n2 * 8 ≤ 140737488351232 := len_of_trod Tryz.underlying32 (by kernel_rfl) (show _ = some x2 from g2) (we 2 32 _ rfl rfl)
    obtain ⟨l2, hl2⟩ := slC_of_trodF (te := 41) (size := 4) (bs := 64) Tryz.underlying39 (by kernel_rfl) (by kernel_rfl) (by omega) (by omega) (R := fun x cs => TrmR w w.heap.size x cs ∧ x.slim) n (fun n' cs' y hlt hy hw => ih n' (by omega) cs' y hy hw) c3 x3 (show _ = some x3 from g3) (we 3 39 _ rfl rfl)
    obtain ⟨hl3, hl4⟩ := hl2.both
    obtain ⟨o3, n3, k3, rfl⟩ := hl3.form
    have hs3 : n3 * 64 ≤ 140737488351232 := len_of_trod Tryz.underlying39 (by kernel_rfl) (show _ = some x3 from g3) (we 3 39 _ rfl rfl)
    exact ⟨.mk k m l l2, trmR_iff.2 ⟨_, _, rfl, bd_i64 w0, bd_i64 w1, hl, hl3⟩, by
     rw [Trm.slim]
     refine ⟨?_, ?_, Trm.slimL_iff.2 hl4⟩
     ·rw [← hl.lens.1]; omega
     ·rw [← hl3.lens.1]; omega⟩
theorem codS_of_trod {w : World} (n' : Nat) (cs : List Value) (y : DataW H × List MemPlace) (h : DataW.trod enc Tryz.prog w 0 (fun _ => true) true n' 50 cs = some y) (hw : ∀ n ∈ y.1.weights Tryz.prog 50, n ≤ reachBytes) : ∃ x, CodR w w.heap.size x cs ∧ x.body.slim := by
 obtain ⟨xs, n, rfl, rfl, hlen, hxs, hget⟩ := DataW.trod_struct Tryz.underlying50 h
 rw [show Tryz.prog.cellsOf 50 = 6 by kernel_rfl] at hlen
 match cs, hlen with
 | [c0, c1, c2, c3, c4, c5], _ =>
  have g0 : DataW.trod enc Tryz.prog w 0 (fun _ => true) true n 32 (([c0, c1, c2, c3, c4, c5].drop 0).take (Tryz.prog.cellsOf 32)) = xs[0]? := hget 0 _ rfl
  have g1 : DataW.trod enc Tryz.prog w 0 (fun _ => true) true n 4 (([c0, c1, c2, c3, c4, c5].drop 1).take (Tryz.prog.cellsOf 4)) = xs[1]? := hget 1 _ rfl
  have g2 : DataW.trod enc Tryz.prog w 0 (fun _ => true) true n 41 (([c0, c1, c2, c3, c4, c5].drop 2).take (Tryz.prog.cellsOf 41)) = xs[2]? := hget 2 _ rfl
  rw [show Tryz.prog.cellsOf 32 = 1 by kernel_rfl] at g0
  rw [show Tryz.prog.cellsOf 4 = 1 by kernel_rfl] at g1
  rw [show Tryz.prog.cellsOf 41 = 4 by kernel_rfl] at g2
  have hx3 : xs.length = 3 := hxs
  match xs, hx3 with
  | [x0, x1, x2], _ =>
   obtain ⟨b, e1, _⟩ := DataW.trod_bool Tryz.underlying4 (show _ = some x1 from g1)
   have f1 : c1 = .bool b := by simpa using e1
   subst f1
   have we : ∀ (i : Nat) (t : TypeId) (z : DataW H), [32, 4, 41][i]? = some t → [x0.1, x1.1, x2.1][i]? = some z → ∀ n ∈ z.weights Tryz.prog t, n ≤ reachBytes := by
    intro i t z ht hz q hq
    refine hw q ?_
    show q ∈ DataW.weights Tryz.prog 50 (.agg _)
    simp only [DataW.weights, Tryz.underlying50]
    exact weightsEach_mem i ht hz q hq
   obtain ⟨l, hl⟩ := ints_of_trod n c0 x0 (show _ = some x0 from g0) (we 0 32 _ rfl rfl)
   obtain ⟨o2, n2, k2, rfl⟩ := hl.form
   have hs : n2 * 8 ≤ 140737488351232 := len_of_trod Tryz.underlying32 (by kernel_rfl) (show _ = some x0 from g0) (we 0 32 _ rfl rfl)
   obtain ⟨t, ht, hts⟩ := trmS_of_trod n [c2, c3, c4, c5] x2 (show _ = some x2 from g2) (we 2 41 _ rfl rfl)
   exact ⟨⟨l, b, t⟩, ⟨_, c2, c3, c4, c5, rfl, hl, ht⟩, hts⟩
theorem open_moduleS {W : World} {r : Reach} {b0 : Nat} {v : Value} {d : DataW H} {ps : List MemPlace} (hval : Value.okWide Tryz.prog W r b0 43 v) (hd : DataW.Trod enc Tryz.prog W 0 (fun _ => true) true 43 v d ps) (hw : ∀ n ∈ d.weights Tryz.prog 43, n ≤ reachBytes) : ∃ m, MdlR W W.heap.size m v ∧ m.slim := by
 unfold Value.okWide at hval
 rw [Tryz.underlying43] at hval
 obtain ⟨⟨cs⟩, rfl, _⟩ := hval
 obtain ⟨fuel, hf⟩ := hd
 have hf' : DataW.trod enc Tryz.prog W 0 (fun _ => true) true fuel 43 cs = some (d, ps) := by simpa [Value.cells] using hf
 obtain ⟨xs, n, rfl, hd2, hlen, hxs, hget⟩ := DataW.trod_struct Tryz.underlying43 hf'
 obtain rfl : d = _ := congrArg Prod.fst hd2
 rw [show Tryz.prog.cellsOf 43 = 6 by kernel_rfl] at hlen
 match cs, hlen with
 | [c0, c1, c2, c3, c4, c5], _ =>
  have g0 : DataW.trod enc Tryz.prog W 0 (fun _ => true) true n 22 (([c0, c1, c2, c3, c4, c5].drop 0).take (Tryz.prog.cellsOf 22)) = xs[0]? := hget 0 _ rfl
  have g1 : DataW.trod enc Tryz.prog W 0 (fun _ => true) true n 38 (([c0, c1, c2, c3, c4, c5].drop 1).take (Tryz.prog.cellsOf 38)) = xs[1]? := hget 1 _ rfl
  have g2 : DataW.trod enc Tryz.prog W 0 (fun _ => true) true n 41 (([c0, c1, c2, c3, c4, c5].drop 2).take (Tryz.prog.cellsOf 41)) = xs[2]? := hget 2 _ rfl
  rw [cells_data] at g0
  rw [show Tryz.prog.cellsOf 38 = 1 by kernel_rfl] at g1
  rw [show Tryz.prog.cellsOf 41 = 4 by kernel_rfl] at g2
  have hx3 : xs.length = 3 := hxs
  match xs, hx3 with
  | [x0, x1, x2], _ =>
   have we : ∀ (i : Nat) (t : TypeId) (z : DataW H), [22, 38, 41][i]? = some t → [x0.1, x1.1, x2.1][i]? = some z → ∀ n ∈ z.weights Tryz.prog t, n ≤ reachBytes := by
    intro i t z ht hz q hq
    refine hw q ?_
    show q ∈ DataW.weights Tryz.prog 43 (.agg _)
    simp only [DataW.weights, Tryz.underlying43]
    exact weightsEach_mem i ht hz q hq
   obtain ⟨l, hl⟩ := repS_of_trod n c0 x0 (show _ = some x0 from g0) (we 0 22 _ rfl rfl)
   obtain ⟨l2, hl2⟩ := slC_of_trod (te := 50) (size := 6) (bs := 96) Tryz.underlying38 (by kernel_rfl) (by kernel_rfl) (by omega) (by omega) (R := fun x cs => CodR W W.heap.size x cs ∧ x.body.slim) (fun n' cs' y hy hw => codS_of_trod n' cs' y hy hw) n c1 x1 (show _ = some x1 from g1) (we 1 38 _ rfl rfl)
   obtain ⟨t, ht, hts⟩ := trmS_of_trod n [c2, c3, c4, c5] x2 (show _ = some x2 from g2) (we 2 41 _ rfl rfl)
   obtain ⟨hl3, hl4⟩ := hl2.both
   exact ⟨⟨l, l2, t⟩, ⟨c0, c1, c2, c3, c4, c5, rfl, hl, hl3, ht⟩, hts, hl4⟩
end
end
section
open Go Go.RowKit Mk
theorem zinto_any : ∀ (k : Nat) (x : Trm), x.all ≤ k → ∀ e, ZIntoC e x
 | 0, x, h => by have := x.all_pos; omega
 | k + 1, .mk op n v t, hk => by
  have hlt : ∀ x ∈ t, x.all ≤ k := fun x hx => by have := Trm.all_mem (o := op) (n := n) (v := v) hx; omega
  have ih : ∀ x ∈ t, ∀ e, ZIntoC e x := fun x hx e => zinto_any k x (hlt x hx) e
  have hH : ∀ y : Trm, y.all ≤ k → ZHadC y := fun y hy => zhad_any y (zinto_any k y hy false)
  have hA : ∀ l : List Trm, (∀ y ∈ l, y.all ≤ k) → ZAllC l := fun l hl => zall_any l fun y hy => hH y (hl y hy)
  have hsub : ∀ x ∈ t, ZAllC x.t := fun x hx => hA x.t fun y hy => by
   obtain ⟨o, m, u, l⟩ := x
   have h1 := Trm.all_mem (o := o) (n := m) (v := u) (show y ∈ l from hy)
   have h2 := hlt _ hx
   omega
  have hall : (Trm.mk op n v t).all = 1 + Trm.allL t := by rw [Trm.all]
  -- the four that go on in parts
  have four : op = 3 ∨ op = 6 ∨ op = 8 ∨ op = 9 → ∀ e, ZIntoC e (.mk op n v t) := by
   intro ho e c0 c1 c2 c3 B base mb K X s d nc nk fr sc W hv hm hw hroom hd
   have hp := wf_parts hw
   rw [hall] at hroom
   rcases ho with rfl | rfl | rfl | rfl
   ·have hc : v.length = 0 ∧ t.length = 3 := by
     have := hp.2.1
     simpa [Trm.countsB] using this
    obtain rfl : v = [] := List.eq_nil_of_length_eq_zero hc.1
    have hwa := wfL_all (by decide) hp.2.2.2
    match t, hc.2 with
    | [a, b, c], _ =>
     rw [into_3]
     exact zinto_choice e n [] [a, b, c] c0 c1 c2 c3 B base mb K X s _ d W hv hm fun W1 hv1 hm1 => zchoice_any e 3 n [] a b c (hH a (hlt a (by simp))) (ih b (by simp) e) (ih c (by simp) e) c0 c1 c2 c3 B base mb K X s d nc nk fr sc W1 hv1 hm1 (hwa a (by simp)) (hwa b (by simp)) (hwa c (by simp)) (hroom.mono (by omega)) hd
   ·have hc : v.length = 0 ∧ 1 ≤ t.length := by
     have := hp.2.1
     simpa [Trm.countsB] using this
    obtain rfl : v = [] := List.eq_nil_of_length_eq_zero hc.1
    have hwa := wfL_all (by decide) hp.2.2.2
    obtain ⟨l, x, rfl, _⟩ := snoc_of (t := t) (n := t.length - 1) (by omega)
    rw [into_6]
    exact zinto_seq e n [] l x (fun y hy => hH y (hlt y (by simp [hy]))) (ih x (by simp) e) c0 c1 c2 c3 B base mb K X s d nc nk fr sc sc W hv hm (fun y hy => hwa y (by simp [hy])) (hwa x (by simp)) (hroom.mono (by omega)) hd
   ·have hc : t.length = v.length + 1 := by
     have := hp.2.1
     simpa [Trm.countsB] using this
    obtain ⟨l, x, rfl, hl⟩ := snoc_of hc
    have hw2 := hp.2.2.2
    rw [wfL_split (by decide)] at hw2
    simp only [List.length_append, List.length_singleton, Nat.add_sub_cancel, List.take_left, List.drop_left, Bool.and_eq_true, List.all_eq_true] at hw2
    rw [into_8]
    exact zinto_let e n v (l ++ [x]) c0 c1 c2 c3 B base mb K X s _ d W hv hm fun W1 hv1 hm1 => zlet_any e n v l x (by omega) (fun y hy => hH y (hlt y (by simp [hy]))) (ih x (by simp) e) c0 c1 c2 c3 B base mb K X s d nc nk fr sc _ W1 hv1 hm1 hw2.1 (hw2.2 x (by simp)) (hroom.mono (by omega)) hd
   ·have hc : t.length = v.length + 1 := by
     have := hp.2.1
     simpa [Trm.countsB] using this
    obtain ⟨l, x, rfl, hl⟩ := snoc_of hc
    have hw2 := hp.2.2.2
    rw [wfL_fix] at hw2
    simp only [List.length_append, List.length_singleton, Nat.add_sub_cancel, List.take_left, Bool.and_eq_true, List.all_eq_true] at hw2
    rw [into_9 _ _ _ _ _ _ _ _ hl]
    refine zinto_fix e n v (l ++ [x]) c0 c1 c2 c3 B base mb K X s _ d W hv hm fun W1 hv1 hm1 => zfix_any e n v l x (by omega) (fun y hy => hsub y (by simp [hy])) (ih x (by simp) e) c0 c1 c2 c3 B base mb K X s d nc nk fr (Trm.addV sc v) (Trm.addV sc v) W1 hv1 hm1 (fun y hm => ?_) (hw2.1 x (by simp)) (hroom.mono (by omega)) hd
    have h19 := hw2.2 y hm
    have hwy := hw2.1 y (by simp [hm])
    obtain ⟨o, m, u, ty⟩ := y
    obtain rfl : o = 19 := by simpa [Trm.op] using h19
    have hpy := wf_parts hwy
    obtain rfl : u = [] := List.eq_nil_of_length_eq_zero (counts_novars (by decide) (by decide) hpy.2.1)
    exact wfL_all (by decide) hpy.2.2.2
  by_cases h3 : op = 3
  ·exact four (.inl h3)
  by_cases h6 : op = 6
  ·exact four (.inr (.inl h6))
  by_cases h8 : op = 8
  ·exact four (.inr (.inr (.inl h8)))
  by_cases h9 : op = 9
  ·exact four (.inr (.inr (.inr h9)))
  have hfr : ZIntoR (2 + 6 * Trm.allL t) false (.mk op n v t) := by
   intro c0 c1 c2 c3 B base mb K X s d nc nk fr sc W hv hm hw hroom hd
   have hp := wf_parts hw
   obtain rfl : v = [] := List.eq_nil_of_length_eq_zero (counts_novars h8 h9 hp.2.1)
   have hwa := wfL_all h9 hp.2.2.2
   have hro := hroom
   have hT := hA t hlt
   by_cases h1 : op = 1
   ·subst h1
    rw [into_f1]
    exact zinto_1 n [] t c0 c1 c2 c3 B base mb K X s d W hv hm (hro.mono (by omega)) hd
   ·rw [into_f _ _ _ _ _ _ _ h3 h6 h8 h9 h1]
    have hpl := plain_of hp.1 h1 h3 h6 h8 h9
    have hcn := hp.2.1
    have hn : I64 n := by
     obtain ⟨_, _, _, _, _, _, _, _, _, _, hn⟩ := TrmR.shape hv
     exact hn
    simp only [plainB, List.contains_eq_mem, List.mem_cons, List.not_mem_nil, or_false, decide_eq_true_eq] at hpl
    rcases hpl with rfl | rfl | rfl | rfl | rfl | rfl | rfl | rfl | rfl | rfl | rfl | rfl | rfl | rfl
    ·obtain rfl : t = [] := List.eq_nil_of_length_eq_zero (by simpa [Trm.countsB] using hcn)
     exact zinto_0 n [] [] c0 c1 c2 c3 B base mb K X s d W hv hm (hro.mono (by omega)) hd
    ·exact zinto_str 5 n [] t hT (by decide) (by decide) (by decide) (by decide) (by decide) (by decide) (by decide) (by decide) (by decide) (by decide) c0 c1 c2 c3 B base mb K X s d nc nk fr sc W hv hm hwa hro fun ov ot lv cvv lt ct rs ol ll cl K s W hl hz hi hr => zstrict_5 n ov ot lv cvv lt ct rs (by rw [hl]; simpa [Trm.countsB] using hcn) ol ll cl B base mb K X s d W hz hi hn hr hd
    ·exact zinto_str 10 n [] t hT (by decide) (by decide) (by decide) (by decide) (by decide) (by decide) (by decide) (by decide) (by decide) (by decide) c0 c1 c2 c3 B base mb K X s d nc nk fr sc W hv hm hwa hro fun ov ot lv cvv lt ct rs ol ll cl K s W hl hz hi hr => zstrict_10 n ov ot lv cvv lt ct rs ol ll cl B base mb K X s d W hz hi hn hr hd
    ·obtain rfl : t = [] := List.eq_nil_of_length_eq_zero (by simpa [Trm.countsB] using hcn)
     exact zinto_11 n [] [] c0 c1 c2 c3 B base mb K X s d W hv hm (hro.mono (by omega)) hd
    ·exact zinto_str 12 n [] t hT (by decide) (by decide) (by decide) (by decide) (by decide) (by decide) (by decide) (by decide) (by decide) (by decide) c0 c1 c2 c3 B base mb K X s d nc nk fr sc W hv hm hwa hro fun ov ot lv cvv lt ct rs ol ll cl K s W hl hz hi hr => zstrict_12 n ov ot lv cvv lt ct rs (by rw [hl]; exact Nat.le_of_eq (show t.length = 1 from by simpa [Trm.countsB] using hcn).symm) ol ll cl B base mb K X s d W hz hi hn hr hd
    ·obtain rfl : t = [] := List.eq_nil_of_length_eq_zero (by simpa [Trm.countsB] using hcn)
     exact zinto_13 n [] [] c0 c1 c2 c3 B base mb K X s d W hv hm (hro.mono (by omega)) hd
    ·exact zinto_str 15 n [] t hT (by decide) (by decide) (by decide) (by decide) (by decide) (by decide) (by decide) (by decide) (by decide) (by decide) c0 c1 c2 c3 B base mb K X s d nc nk fr sc W hv hm hwa hro fun ov ot lv cvv lt ct rs ol ll cl K s W hl hz hi hr => zstrict_15 n ov ot lv cvv lt ct rs (by rw [hl]; exact Nat.le_of_eq (show t.length = 1 from by simpa [Trm.countsB] using hcn).symm) ol ll cl B base mb K X s d W hz hi hn hr hd
    ·exact zinto_str 16 n [] t hT (by decide) (by decide) (by decide) (by decide) (by decide) (by decide) (by decide) (by decide) (by decide) (by decide) c0 c1 c2 c3 B base mb K X s d nc nk fr sc W hv hm hwa hro fun ov ot lv cvv lt ct rs ol ll cl K s W hl hz hi hr => zstrict_16 n ov ot lv cvv lt ct rs (by rw [hl]; exact Nat.le_of_eq (show t.length = 1 from by simpa [Trm.countsB] using hcn).symm) ol ll cl B base mb K X s d W hz hi hn hr hd
    ·exact zinto_str 17 n [] t hT (by decide) (by decide) (by decide) (by decide) (by decide) (by decide) (by decide) (by decide) (by decide) (by decide) c0 c1 c2 c3 B base mb K X s d nc nk fr sc W hv hm hwa hro fun ov ot lv cvv lt ct rs ol ll cl K s W hl hz hi hr => zstrict_17 n ov ot lv cvv lt ct rs (by rw [hl]; exact Nat.le_of_eq (show t.length = 2 from by simpa [Trm.countsB] using hcn).symm) ol ll cl B base mb K X s d W hz hi hn hr hd
    ·exact zinto_str 18 n [] t hT (by decide) (by decide) (by decide) (by decide) (by decide) (by decide) (by decide) (by decide) (by decide) (by decide) c0 c1 c2 c3 B base mb K X s d nc nk fr sc W hv hm hwa hro fun ov ot lv cvv lt ct rs ol ll cl K s W hl hz hi hr => zstrict_18 n ov ot lv cvv lt ct rs (by rw [hl]; exact Nat.le_of_eq (show t.length = 2 from by simpa [Trm.countsB] using hcn).symm) ol ll cl B base mb K X s d W hz hi hn hr hd
    ·exact zinto_str 19 n [] t hT (by decide) (by decide) (by decide) (by decide) (by decide) (by decide) (by decide) (by decide) (by decide) (by decide) c0 c1 c2 c3 B base mb K X s d nc nk fr sc W hv hm hwa hro fun ov ot lv cvv lt ct rs ol ll cl K s W hl hz hi hr => zstrict_19 n ov ot lv cvv lt ct rs ol ll cl B base mb K X s d W hz hi hn hr hd
    ·obtain rfl : t = [] := List.eq_nil_of_length_eq_zero (by simpa [Trm.countsB] using hcn)
     exact zinto_20 n [] [] c0 c1 c2 c3 B base mb K X s d W hv hm (hro.mono (by omega)) hd
    ·obtain rfl : t = [] := List.eq_nil_of_length_eq_zero (by simpa [Trm.countsB] using hcn)
     exact zinto_21 n [] [] c0 c1 c2 c3 B base mb K X s d W hv hm (hro.mono (by omega)) hd
    ·exact zinto_str 22 n [] t hT (by decide) (by decide) (by decide) (by decide) (by decide) (by decide) (by decide) (by decide) (by decide) (by decide) c0 c1 c2 c3 B base mb K X s d nc nk fr sc W hv hm hwa hro fun ov ot lv cvv lt ct rs ol ll cl K s W hl hz hi hr => zstrict_22 n ov ot lv cvv lt ct rs (by rw [hl]; simpa [Trm.countsB] using hcn) ol ll cl B base mb K X s d W hz hi hn hr hd
  intro e
  cases e with
  | false =>
   intro c0 c1 c2 c3 B base mb K X s d nc nk fr sc W hv hm hw hroom hd
   exact hfr c0 c1 c2 c3 B base mb K X s d nc nk fr sc W hv hm hw (hroom.mono (by rw [hall]; omega)) hd
  | true =>
   intro c0 c1 c2 c3 B base mb K X s d nc nk fr sc W hv hm hw hroom hd
   have hp := wf_parts hw
   obtain rfl : v = [] := List.eq_nil_of_length_eq_zero (counts_novars h8 h9 hp.2.1)
   have hwa := wfL_all h9 hp.2.2.2
   have hcn := hp.2.1
   have hro : Room s (2 + 6 * Trm.allL t) := hroom.mono (by rw [hall]; omega)
   have hT := hA t hlt
   cases he : Mk.endsB op n with
   | true =>
    rw [into_t _ _ _ _ _ _ _ h3 h6 h8 h9 he]
    refine zinto_end op n [] t h3 h6 h8 h9 c0 c1 c2 c3 B base mb K X s _ d W hv hm fun W1 hv1 hm1 => ?_
    simp only [Mk.endsB, Bool.or_eq_true, Bool.and_eq_true, decide_eq_true_eq] at he
    rcases he with rfl | rfl | ⟨rfl, hn⟩
    ·exact zlast_5 n [] t hT (by simpa [Trm.countsB] using hcn) c0 c1 c2 c3 B base mb K X s nc nk fr sc W1 hv1 hm1 hwa hro
    ·exact zlast_22 n [] t hT (by simpa [Trm.countsB] using hcn) c0 c1 c2 c3 B base mb K X s nc nk fr sc W1 hv1 hm1 hwa hro
    ·exact zlast_10 n [] t hT hn c0 c1 c2 c3 B base mb K X s nc nk fr sc W1 hv1 hm1 hwa hro
   | false =>
    rw [into_th _ _ _ _ _ _ _ h3 h6 h8 h9 he]
    refine zinto_end op n [] t h3 h6 h8 h9 c0 c1 c2 c3 B base mb K X s _ d W hv hm fun W1 hv1 hm1 => ?_
    simp only [Mk.endsB, Bool.or_eq_false_iff, Bool.and_eq_false_iff, decide_eq_false_iff_not] at he
    have hrm : Room s (4 + 6 * Trm.allL t) := hroom.mono (by rw [hall]; omega)
    refine zlast_else (2 + 6 * Trm.allL t + 1) op n [] t (zhad_anyR _ _ hfr) he.1 he.2.1 (he.2.2.imp id (fun h => Int.not_le.1 h)) c0 c1 c2 c3 B base mb K X s nc nk fr sc W1 hv1 hm1 hw (hrm.mono (by omega)) ?_
    by_cases h1 : op = 1
    ·subst h1
     rw [show Mk.had Mk.lkF (.mk 1 n [] t) s = (Mk.lkF s.vars n, s) by simp [Mk.had, Mk.hadW, Trm.op, Trm.n]]
     exact ⟨hrm.mono (by omega), hrm.lk Mk.lkF_ok n⟩
    ·rw [show Mk.had Mk.lkF (.mk op n [] t) s = (s.regs, Mk.into Mk.lkF (.mk op n [] t) s.regs false s.fresh) from if_neg h1, into_f Mk.lkF op n [] t s.regs s.fresh h3 h6 h8 h9 h1]
     exact ⟨Room.strict (k := 1) (Room.allT (k := 3) Mk.lkF_ok t s.fresh (Room.fresh (hrm.mono (by omega)))).1 _ _ _ _, hrm.2.1, by have := hrm.2.2.1; omega⟩
end
end Go.Proofs.YtigkhmppnnljiaaGreatDoor

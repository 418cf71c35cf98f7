/-
  What the proofs lean on: Concat, FdD, FewT, FwP.
-/
import Derived.Lib.AppendZerosOnto
import Derived.Deep.LoopGhost
import Derived.Deep.Cut
import Derived.Deep.CutRange
import Derived.WalkSpells
import Derived.Deep.DeepCutAuto
import Derived.Test.YtgbibibmpoekiaaGreatDoorFolA10
import Derived.Test.YtgbibibmpoekiaaGreatDoorFolA11
set_option maxRecDepth 100000
set_option maxHeartbeats 16000000
namespace Go.Proofs.YtgbibibmpoekiaaGreatDoor
section
open Go Go.RowKit
theorem wpList_ranA {P : Program} {ops : Array Oper} {rest : List Oper} {Q : Exit → Act → World → Prop} {o : Oper} {a : Act} {w w' : World} {v u y : Value} {ts : Array TypeId} (hg : o.guard = none) (s x : Operand) (ho : o.op = .call { callee := .builtin .append, args := #[s, x], argTypes := ts }) (hs : a.eval s = u) (hx : a.eval x = y)
  (hr : ∀ ty, (Builtin.append_ ts ty #[u, y]).run P w = .ok v w') (h : wpList P ops Q rest (a.put o.dst v) w') : wpList P ops Q (o :: rest) a w := by
 refine wpList_plain hg fun K hK => ?_
 unfold Oper.wp execOp
 simp only [ho, resolve, invoke, builtin, Sem.run_bind, Sem.run_pure, Result.andThen_ok, List.map_toArray, List.map_cons, List.map_nil, hs, hx, hr]
 exact hK _ _ h
theorem ownsRow_lower {w : World} {base base' n size : Nat} {e : TypeId} {v : Value} {xs : List Value} (h : w.ownsRow base e size v n xs) (hb : base' ≤ base) : w.ownsRow base' e size v n xs := by
 refine ⟨h.1, ?_⟩
 rcases h.2 with h' | ⟨g, cap, cur, k1, k2, k3⟩
 ·exact .inl h'
 ·exact .inr ⟨g, cap, cur, k1, Nat.le_trans hb k2, k3⟩
theorem own_from {W : World} {base n size : Nat} {e : TypeId} {v : Value} {xs : List Value} (h : W.ownsRow base e size v n xs) : ∀ g, v.ownBlock = some g → base ≤ g := by
 intro r hr
 rcases h.2 with ⟨rfl, _⟩ | ⟨g, cap, cur, rfl, hb, _⟩
 ·cases hr
 ·simp only [Value.ownBlock, Option.some.injEq] at hr
  omega
theorem own_form {w : World} {base n size : Nat} {e : TypeId} {v : Value} {xs : List Value} (h : w.ownsRow base e size v n xs) : ∃ o c, v = .slice o n c := by
 rcases h.2 with ⟨h1, h2⟩ | ⟨g, cap, cur, h1, _⟩
 ·exact ⟨none, 0, by rw [h1, h2]⟩
 ·exact ⟨_, _, h1⟩
theorem under_int : Tryz.prog.underlying 3 = some (.int .i64) := by kernel_rfl
theorem growNil_any (n : Nat) (w : World) (hn : n ≤ 8000000) :
  Calls Tryz.prog 88 #[.slice none 0 0, .int .i64 n] w fun e w' => ∃ v, e = .returned v ∧ w'.ownsRow w.heap.size 3 1 v 0 [] ∧ (∃ o cap, v = .slice o 0 cap) ∧ Below w.heap.size w w' := by
 have h1 : decide ((n : Int) < 0) = false := decide_eq_false (by omega)
 rcases Nat.eq_zero_or_pos n with h0 | h0
 ·subst h0
  go_enter Tryz.func88, Tryz.ntmps88
  go_wp2_with fail
  go_ret
  exact ⟨_, rfl, World.ownsRow_nil _ _ _ _, ⟨_, _, rfl⟩, Below.refl _ _⟩
 ·obtain ⟨i0, hi, hz0, hz1, hz2⟩ := info_parts info_int
  have h4 : decide ((n : Int) > 0) = true := decide_eq_true (by omega)
  have hrz : ∀ ty, (Builtin.append_ #[23, 3] ty #[.slice none 0 0, .int .i64 n]).run Tryz.prog w = .ok (.slice (some ⟨w.heap.size, 0, none⟩) n (grownCap w n 0 3)) (w.drew.alloc (.cells (#[] ++ Builtin.zeroCells #[.int .i64 0] n ++ Builtin.zeroCells #[.int .i64 0] (grownCap w n 0 3 - n)) 3)) := fun ty => by
   have h := Lib.run_append_grow_zeros w 23 3 ty 3 i0 (.int .i64 0) .i64 .i64 Tryz.underlying23 under_int hi hz0 none 0 0 [] (run_firstCells_none w.drew i0.size 0 0 0) n h0 (by omega) (by omega) (by omega) (by rw [hz2]; omega) (by rw [hz2]; exact growslice_fits (by omega) (by omega))
   rw [Nat.zero_add] at h
   exact h
  have hGn : n ≤ grownCap w n 0 3 := grownCap_ge w _ _ _
  obtain ⟨G, hG⟩ : ∃ G, G = grownCap w n 0 3 := ⟨_, rfl⟩
  have hG63 : G ≤ maxLen := by
   have := grownCap_le_maxLen w n 0 3 (by unfold maxLen; omega)
   rw [← hG] at this
   exact this
  rw [← hG] at hrz hGn
  obtain ⟨cur, hcur⟩ : ∃ cur, (#[] ++ Builtin.zeroCells #[.int .i64 0] n ++ Builtin.zeroCells #[.int .i64 0] (G - n)) = cur := ⟨_, rfl⟩
  have hcs : cur.size = G := by
   rw [← hcur]; simp [Builtin.zeroCells]; omega
  rw [hcur] at hrz
  have HW := Lib.hid (show (w.drew.alloc (.cells cur 3)).ownsRow w.heap.size 3 1 (.slice (some ⟨w.heap.size, 0, none⟩) 0 G) 0 [] from ⟨rfl, .inr ⟨w.heap.size, G, cur, rfl, Nat.le_refl _, World.alloc_heap_new w.drew _, Nat.zero_le _, hG63, by omega, by simp⟩⟩)
  have HG := Lib.hid hG
  clear hG hcur hcs
  go_enter Tryz.func88, Tryz.ntmps88
  go_upto_region 5 with fail
  go_wp2_with (at_builtin; refine wpList_ranA rfl (.tmp 20) (.tmp 21) rfl rfl rfl hrz ?_)
  go_wp2_with fail
  go_ret
  exact ⟨_, rfl, HW.out, ⟨_, _, rfl⟩, ((Below.refl w.heap.size w).drew).alloc (Nat.le_refl _) _⟩
theorem concat_any (l1 l2 : List Int) (v1 v2 : Value) (B sb : Nat) (w : World) (h1 : SlC w B 1 IntR l1 v1) (h2 : SlC w B 1 IntR l2 v2) (hB : B ≤ w.heap.size) (hb : BoxL w sb 23 [v1, v2]) (hm1 : l1.length ≤ 4000000) (hm2 : l2.length ≤ 4000000) :
  Calls Tryz.prog 56 #[.slice (some ⟨sb, 0, none⟩) 2 2] w fun e w' => ∃ v, e = .returned v ∧ w'.ownsRow w.heap.size 3 1 v (l1 ++ l2).length ((l1 ++ l2).map (Value.int .i64)) ∧ (∀ x ∈ l1 ++ l2, I64 x) ∧ (∃ o n c, v = .slice o n c) ∧ Below w.heap.size w w' := by
 obtain ⟨o1, n1, k1, rfl⟩ := h1.form
 obtain ⟨o2, n2, k2, rfl⟩ := h2.form
 have HB := Lib.hid hb
 have H1 := Lib.hid h1
 have H2 := Lib.hid h2
 have HL1 := Lib.hid h1.lens.1
 have HL2 := Lib.hid h2.lens.1
 have hm1' : n1 ≤ 4000000 := by rw [h1.lens.1]; exact hm1
 have hm2' : n2 ≤ 4000000 := by rw [h2.lens.1]; exact hm2
 have hI : ∀ x ∈ l1 ++ l2, I64 x := fun x hx => (List.mem_append.1 hx).elim (h1.i64 x) (h2.i64 x)
 have HI := Lib.hid hI
 clear hb h1 h2 hm1 hm2 hI
 go_enter Tryz.func56, Tryz.ntmps56
 go_wp2_with fail
 go_loopg [3, 11] 2 (fun g s i wr => ∃ (j t : Nat), g = 2 - j ∧ j ≤ 2 ∧ i = .int .i64 j ∧ s = .int .i64 t ∧ Hid (Below w.heap.size w wr) ∧ ((j = 0 ∧ t = 0) ∨ (j = 1 ∧ n1 = t) ∨ (j = 2 ∧ n1 + n2 = t)))
 case atStart => exact ⟨0, 0, rfl, by omega, rfl, rfl, Lib.hid (Below.refl _ _), .inl ⟨rfl, rfl⟩⟩
 case round =>
  obtain ⟨j, t, rfl, hj, rfl, rfl, HW, hc⟩ := hrel
  have HX := Lib.hid (HB.out.keep HW.out)
  have e0 := HX.out.cell 0 rfl
  have e1 := HX.out.cell 1 rfl
  have el := HX.out.lt
  rcases hc with ⟨rfl, rfl⟩ | ⟨rfl, rfl⟩ | ⟨rfl, rfl⟩
  ·have d0 : decide ((n1 : Int) < 0) = false := decide_eq_false (by omega)
   go_wp2_with fail
   go_roundg 1
   case measure => omega
   case rel => exact ⟨1, n1, rfl, by omega, rfl, by go_num, HW, .inr (.inl ⟨rfl, rfl⟩)⟩
  ·have d0 : decide ((n1 : Int) + n2 < 0) = false := decide_eq_false (by omega)
   go_wp2_with fail
   go_roundg 0
   case measure => omega
   case rel => exact ⟨2, n1 + n2, rfl, by omega, rfl, by go_num, HW, .inr (.inr ⟨rfl, rfl⟩)⟩
  ·have HG := Lib.hid (growNil_any (n1 + n2) wr (by omega))
   go_wp2_with fail
   refine HG.out.mono ?_
   rintro e w3 ⟨v, rfl, hrow, ⟨og, cg, rfl⟩, hb3⟩
   have HR3 := Lib.hid hrow
   have HB3 := Lib.hid (HW.out.trans (hb3.mono HW.out.size))
   have hsz := HW.out.size
   clear hrow hb3 e0 e1 el
   go_wp2_with fail
   go_loopg [6, 27] 2 (fun g s i wr => ∃ (j : Nat) (xs : List Int), g = 2 - j ∧ j ≤ 2 ∧ i = .int .i64 j ∧ Hid (Below w.heap.size w wr) ∧ Hid (wr.ownsRow w.heap.size 3 1 s xs.length (xs.map (Value.int .i64))) ∧ ((j = 0 ∧ xs = []) ∨ (j = 1 ∧ xs = l1) ∨ (j = 2 ∧ xs = l1 ++ l2)))
   case atStart => exact ⟨0, [], rfl, by omega, rfl, HB3, Lib.hid (ownsRow_lower HR3.out hsz), .inl ⟨rfl, rfl⟩⟩
   case round =>
    obtain ⟨j, xs, rfl, hj, rfl, HW2, HR, hc⟩ := hrel
    have HX := Lib.hid (HB.out.keep HW2.out)
    have e0 := HX.out.cell 0 rfl
    have e1 := HX.out.cell 1 rfl
    have el := HX.out.lt
    obtain ⟨os, cs, rfl⟩ := own_form HR.out
    rcases hc with ⟨rfl, rfl⟩ | ⟨rfl, hxs⟩ | ⟨rfl, rfl⟩
    ·have HS := Lib.hid (H1.out.kept (HW2.out.mono hB) fun _ _ _ h => h)
     have hb2 := HW2.out.size
     go_wp2_with (at_builtin; refine wpList_append_ints rfl (.tmp 31) (.tmp 32) rfl w.heap.size B _ [] l1 rfl HR.out (o1) n1 k1 rfl HS.out (by have := HL1.out; simp; omega) hb2 ?_)
     intro v' w5 hown hgrow
     have HR5 := Lib.hid hown
     have HB5 := Lib.hid (HW2.out.grown hgrow hb2 (fun g hg => by exact own_from HR.out g hg))
     obtain ⟨o5, c5, rfl⟩ := own_form hown
     clear hown hgrow e0 e1 el
     go_wp2_with fail
     go_roundg 1
     case measure => omega
     case rel => exact ⟨1, _, rfl, by omega, by go_num, HB5, HR5, .inr (.inl ⟨rfl, rfl⟩)⟩
    ·subst hxs
     have HS := Lib.hid (H2.out.kept (HW2.out.mono hB) fun _ _ _ h => h)
     have hb2 := HW2.out.size
     go_wp2_with (at_builtin; refine wpList_append_ints rfl (.tmp 31) (.tmp 32) rfl w.heap.size B _ xs l2 rfl HR.out (o2) n2 k2 rfl HS.out (by have := HL1.out; have := HL2.out; omega) hb2 ?_)
     intro v' w5 hown hgrow
     have HR5 := Lib.hid hown
     have HB5 := Lib.hid (HW2.out.grown hgrow hb2 (fun g hg => by exact own_from HR.out g hg))
     obtain ⟨o5, c5, rfl⟩ := own_form hown
     clear hown hgrow e0 e1 el
     go_wp2_with fail
     go_roundg 0
     case measure => omega
     case rel => exact ⟨2, xs ++ l2, rfl, by omega, by go_num, HB5, Lib.hid (by rw [List.length_append, List.map_append]; exact HR5.out), .inr (.inr ⟨rfl, rfl⟩)⟩
    ·go_wp2_with fail
     go_ret
     exact ⟨_, rfl, HR.out, HI.out, ⟨_, _, _, rfl⟩, HW2.out⟩
end
section
open Go Go.RowKit
namespace Trm
mutual
def pre : Trm → List Trm
 | mk o n v t => mk o n v t :: preL t
def preL : List Trm → List Trm
 | [] => []
 | x :: l => pre x ++ preL l
end
theorem preL_app (l m : List Trm) : preL (l ++ m) = preL l ++ preL m := by
 induction l with
 | nil => rfl
 | cons x l ih => rw [List.cons_append, preL, preL, ih, List.append_assoc]
theorem preL_snoc {l : List Trm} {j : Nat} {x : Trm} (h : l[j]? = some x) : preL (l.take (j + 1)) = preL (l.take j) ++ pre x := by
 rw [List.take_add_one, h, preL_app]
 show preL (l.take j) ++ (pre x ++ []) = _
 rw [List.append_nil]
theorem pre_len : ∀ x : Trm, (pre x).length = x.all := by
 intro x
 induction x using ind with
 | h o n v t ih =>
  have key : ∀ l : List Trm, (∀ y ∈ l, (pre y).length = y.all) → (preL l).length = allL l := fun l => by
   induction l with
   | nil => intro _; rfl
   | cons y l ihl => intro hy; rw [preL, allL, List.length_append, hy y (by simp), ihl fun z hz => hy z (List.mem_cons_of_mem _ hz)]
  rw [pre, List.length_cons, all, key t ih]
  omega
def refs (v : Int) (l : List Trm) : Nat := l.countP fun y => y.op == 1 && y.n == v
theorem refs_named (v : Int) : ∀ x : Trm, Fd.named v x = decide (0 < refs v (pre x)) := by
 intro x
 induction x using ind with
 | h o n w t ih =>
  have key : ∀ l : List Trm, (∀ y ∈ l, Fd.named v y = decide (0 < refs v (pre y))) → Fd.namedL v l = decide (0 < refs v (preL l)) := fun l => by
   induction l with
   | nil => intro _; rfl
   | cons y l ihl =>
    intro hy
    rw [Fd.namedL, preL, refs, List.countP_append, hy y (by simp), ihl fun z hz => hy z (List.mem_cons_of_mem _ hz)]
    rw [Bool.eq_iff_iff]
    rw [Bool.or_eq_true, decide_eq_true_eq, decide_eq_true_eq, decide_eq_true_eq]
    show 0 < refs v (pre y) ∨ 0 < refs v (preL l) ↔ 0 < refs v (pre y) + refs v (preL l)
    omega
  have e : refs v (mk o n w t :: preL t) = refs v (preL t) + if (o == 1 && n == v) = true then 1 else 0 := by rw [refs, List.countP_cons]; rfl
  rw [Fd.named, pre, key t ih, e]
  cases (o == 1 && n == v)
  ·simp
  ·simp
end Trm
end
section
open Go Go.RowKit
namespace Trm
mutual
def few : Trm → Int → Int
 | mk _ _ _ t, left => fewL t (left - 1)
def fewL : List Trm → Int → Int
 | [], c => c
 | x :: l, c => if 0 ≤ c then fewL l (few x c) else c
end
theorem fewL_neg (l : List Trm) {c : Int} (hc : ¬ 0 ≤ c) : fewL l c = c := by
 cases l with
 | nil => rfl
 | cons x l => rw [fewL, if_neg hc]
theorem all_ge : ∀ x : Trm, 1 ≤ x.all
 | mk _ _ _ t => by rw [all]; omega
theorem few_eq (x : Trm) : ∀ c : Int, 0 ≤ c → few x c = if (x.all : Int) ≤ c then c - x.all else -1 := by
 have hL : ∀ l : List Trm, (∀ x ∈ l, ∀ c : Int, 0 ≤ c → few x c = if (x.all : Int) ≤ c then c - x.all else -1) → ∀ c : Int, -1 ≤ c → fewL l c = if (allL l : Int) ≤ c then c - allL l else -1 := by
  intro l
  induction l with
  | nil =>
   intro _ c hc
   rw [fewL, allL]
   split
   ·simp
   ·omega
  | cons x l ih =>
   intro hx c hc
   have hp := x.all_ge
   by_cases h0 : 0 ≤ c
   ·rw [fewL, if_pos h0, hx x (by simp) c h0, ih (fun y hy => hx y (by simp [hy])) _ (by split <;> omega), allL]
    split <;> split <;> (try split) <;> omega
   ·rw [fewL, if_neg h0, allL, if_neg (by omega)]
    omega
 induction x using Trm.ind with
 | _ o n v t ih =>
  intro c hc
  rw [few, hL t ih _ (by omega), all]
  split <;> split <;> omega
theorem few_range (x : Trm) {c : Int} (hc : 0 ≤ c) : -1 ≤ few x c ∧ few x c ≤ c := by
 rw [few_eq x c hc]
 have := x.all_ge
 split <;> omega
theorem fewL_step {l : List Trm} {i : Nat} {x : Trm} {c : Int} (h : l[i]? = some x) (hc : 0 ≤ c) : fewL (l.drop i) c = fewL (l.drop (i + 1)) (few x c) := by
 have e : l.drop i = x :: l.drop (i + 1) := by
  obtain ⟨hi, he⟩ := List.getElem?_eq_some_iff.1 h
  rw [← he]; exact List.drop_eq_getElem_cons hi
 rw [e, fewL, if_pos hc]
theorem few_ge0 (x : Trm) {c : Int} (hc : 0 ≤ c) : decide (0 ≤ few x c) = decide ((x.all : Int) ≤ c) := by
 rw [few_eq x c hc, decide_eq_decide]
 split <;> omega
theorem allL_take : ∀ (l : List Trm) (j : Nat) (x : Trm), l[j]? = some x → allL (l.take (j + 1)) = allL (l.take j) + x.all
 | [], j, x, h => by simp at h
 | y :: l, 0, x, h => by
  simp only [List.getElem?_cons_zero, Option.some.injEq] at h
  subst h
  simp [allL]
 | y :: l, j + 1, x, h => by
  have := allL_take l j x (by simpa using h)
  simp only [List.take_succ_cons, allL]
  omega
theorem allL_take_le : ∀ (l : List Trm) (j : Nat), allL (l.take j) ≤ allL l
 | [], j => by simp
 | y :: l, 0 => by simp [allL]
 | y :: l, j + 1 => by
  have := allL_take_le l j
  simp only [List.take_succ_cons, allL]
  omega
end Trm
theorem trm_boxed {w : World} {B : Nat} {o n : Int} {v : List Int} {t : List Trm} {c0 c1 c2 c3 : Value} (h : TrmR w B (.mk o n v t) [c0, c1, c2, c3]) : ∃ vs q len cap, c0 = .int .i64 o ∧ c1 = .int .i64 n ∧ c2 = vs ∧ c3 = .slice q len cap ∧ SlC w B 4 (TrmR w B) t (.slice q len cap) ∧ SlC w B 1 IntR v vs ∧ len = t.length ∧ len ≤ 9223372036854775807 := by
 obtain ⟨vs, ts, he, _, _, h3, h4⟩ := trmR_iff.1 h
 simp only [List.cons.injEq, and_true] at he
 obtain ⟨rfl, rfl, rfl, rfl⟩ := he
 obtain ⟨q, len, cap, rfl⟩ := h4.form
 have := h4.lens
 exact ⟨_, _, _, _, rfl, rfl, rfl, rfl, h4, h3, this.1, by omega⟩
theorem tfew_any (x : Trm) : ∀ (c0 c1 c2 c3 : Value) (left : Int) (B : Nat) (w : World), TrmR w B x [c0, c1, c2, c3] → B ≤ w.heap.size → 0 ≤ left → left ≤ 100000 →
  Calls Tryz.prog 27 #[.agg #[c0, c1, c2, c3], .int .i64 left] w fun e w' => e = .returned (.int .i64 (Trm.few x left)) ∧ Below w.heap.size w w' := by
 induction x using Trm.ind with
 | _ o n v t ih =>
  intro c0 c1 c2 c3 left B w hv hB h0 h1
  obtain ⟨vs, q, len, cap, rfl, rfl, rfl, rfl, hs, _, hlen, hmx⟩ := trm_boxed hv
  obtain ⟨W1, hW1⟩ : ∃ W1, w.alloc (.cells #[.int .i64 o, .int .i64 n, c2, .slice q len cap] 26) = W1 := ⟨_, rfl⟩
  have HB1 := Lib.hid (show Below w.heap.size w W1 from by rw [← hW1]; exact Below.one w _)
  have HX1 := Lib.hid (show BoxL W1 w.heap.size 26 [.int .i64 o, .int .i64 n, c2, .slice q len cap] from by rw [← hW1]; exact BoxL.new rfl _ _)
  have IH := Lib.hid ih
  have HS := Lib.hid hs
  have HL := Lib.hid hlen
  have HW := Lib.hid hW1
  clear ih hv hs hlen hW1
  go_enter Tryz.func27, Tryz.ntmps27
  go_upto_region 1 with fail
  rw [HW.out]
  go_wp2
  go_loopg [1, 5] len (fun g a i wr => ∃ (cur : Int) (j : Nat), g = len - j ∧ a = .int .i64 cur ∧ i = .int .i64 j ∧ j ≤ len ∧ -1 ≤ cur ∧ cur ≤ 100000 ∧ Hid (Trm.fewL (t.drop j) cur = Trm.fewL t (left - 1)) ∧ Hid (Below W1.heap.size W1 wr))
  case atStart => exact ⟨left - 1, 0, rfl, rfl, rfl, by omega, by omega, by omega, Lib.hid rfl, Lib.hid (Below.refl _ _)⟩
  case round =>
   obtain ⟨cur, j, rfl, rfl, rfl, hj, hc1, hc2, HF, HBR⟩ := hrel
   have HXR := Lib.hid (HX1.out.keep HBR.out)
   have HBW := Lib.hid (HB1.out.trans (HBR.out.mono HB1.out.size))
   have b3 := HXR.out.cell 3 rfl
   have bl := HXR.out.lt
   by_cases hjl : j < len
   ·by_cases hcur : 0 ≤ cur
    ·obtain ⟨x, hx⟩ : ∃ x, t[j]? = some x := ⟨_, List.getElem?_eq_getElem (by rw [← HL.out]; exact hjl)⟩
     obtain ⟨b, off, cs, ho, _, hcl, hcell, hir⟩ := SlC.at HS.out (HBW.out.mono hB) hx
     subst ho
     match cs, hcl with
     | [d0, d1, d2, d3], _ =>
      have e0 := hcell 0 _ rfl
      have e1 := hcell 1 _ rfl
      have e2 := hcell 2 _ rfl
      have e3 := hcell 3 _ rfl
      simp only [Nat.add_zero] at e0
      have HX := Lib.hid hx
      have hg := Trm.few_range x hcur
      have HF2 := Lib.hid ((Trm.fewL_step hx hcur).symm.trans HF.out)
      have HCC := Lib.hid (IH.out x (List.mem_of_getElem? hx) d0 d1 d2 d3 cur B wr (TrmR.kept (HBW.out.mono hB) _ _ hir) (by have := HBW.out.size; omega) hcur hc2)
      obtain ⟨y, hy⟩ : ∃ y, Trm.few x cur = y := ⟨_, rfl⟩
      rw [hy] at hg HF2 HCC
      clear hx hir hcell hy
      go_wp2_with fail
      with_reducible refine HCC.out.mono ?_
      rintro e w1 ⟨rfl, hb1⟩
      have HBN := Lib.hid (HBR.out.trans (hb1.mono HBR.out.size))
      clear hb1 HCC
      go_wp2_with fail
      go_roundg (len - (j + 1))
      case measure => omega
      case rel => exact ⟨y, j + 1, rfl, rfl, by go_num, by omega, by omega, by omega, HF2, HBN⟩
    ·have HR := Lib.hid (show Trm.fewL t (left - 1) = cur by rw [← HF.out, Trm.fewL_neg _ hcur])
     go_wp2
     go_ret
     exact ⟨ret_int (by rw [Trm.few]; exact HR.out.symm), HBW.out⟩
   ·have HR := Lib.hid (show Trm.fewL t (left - 1) = cur by
     rw [← HF.out, List.drop_eq_nil_of_le (by rw [← HL.out]; omega)]; rfl)
    go_wp2
    go_ret
    exact ⟨ret_int (by rw [Trm.few]; exact HR.out.symm), HBW.out⟩
theorem tFew_any (x : Trm) (c0 c1 c2 c3 : Value) (left : Int) (B : Nat) (w : World) (hv : TrmR w B x [c0, c1, c2, c3]) (hB : B ≤ w.heap.size) (h0 : 0 ≤ left) (h1 : left ≤ 100000) :
  Calls Tryz.prog 14 #[.agg #[c0, c1, c2, c3], .int .i64 left] w fun e w' => e = .returned (.bool (decide ((x.all : Int) ≤ left))) ∧ Below w.heap.size w w' := by
 have HD := Lib.hid (Trm.few_ge0 x h0)
 have HCC := Lib.hid (tfew_any x c0 c1 c2 c3 left B (w.alloc (.cells #[c0, c1, c2, c3] 26)) (TrmR.kept ((Below.one w _).mono hB) _ _ hv) (by simp; omega) h0 h1)
 obtain ⟨o, n, v, t⟩ := x
 obtain ⟨vs, q, len, cap, rfl, rfl, rfl, rfl, hs, _, hlen, hmx⟩ := trm_boxed hv
 obtain ⟨oo, ll, cc, rfl⟩ : ∃ oo ll cc, c2 = .slice oo ll cc := by
  obtain ⟨vs', ts, he, _, _, h3, _⟩ := trmR_iff.1 hv
  simp only [List.cons.injEq, and_true] at he
  obtain ⟨_, _, rfl, _⟩ := he
  exact h3.form
 obtain ⟨y, hy⟩ : ∃ y, Trm.few (.mk o n v t) left = y := ⟨_, rfl⟩
 rw [hy] at HD HCC
 clear hv hs hlen hmx hy
 go_enter Tryz.func14, Tryz.ntmps14
 go_wp2_with fail
 with_reducible refine HCC.out.mono ?_
 rintro e' w1 ⟨rfl, hb1⟩
 go_wp2_with fail
 go_ret
 exact ⟨by rw [← HD.out]; rfl, (Below.one w _).trans (hb1.mono (by simp))⟩
end
section
namespace Fd
open Trm
def letStep (last : Trm) (r : List (Int × Trm) × List Int × List Trm) (v : Int) (x : Trm) : List (Int × Trm) × List Int × List Trm :=
 if light x then (r.1 ++ [(v, x)], r.2.1, r.2.2) else if !idle x || named v last then (r.1, r.2.1 ++ [v], r.2.2 ++ [x]) else r
theorem lets_snoc (last : Trm) (v : Int) (x : Trm) : ∀ (vs : List Int) (l : List Trm), vs.length = l.length → lets last (vs ++ [v]) (l ++ [x]) = letStep last (lets last vs l) v x
 | [], [], _ => by
  rw [List.nil_append, List.nil_append, lets, letStep]
  simp only [lets]
  split
  ·rfl
  ·split <;> rfl
 | [], _ :: _, h => by simp at h
 | _ :: _, [], h => by simp at h
 | u :: vs, y :: l, h => by
  have ih := lets_snoc last v x vs l (by simpa using h)
  rw [List.cons_append, List.cons_append, lets, ih, lets]
  unfold letStep
  by_cases hy : light y = true
  ·simp only [hy, if_true]
   by_cases hx : light x = true
   ·simp only [hx, if_true, List.cons_append]
   ·simp only [hx]
    by_cases hi : (!idle x || named v last) = true
    ·simp [hi]
    ·simp [hi]
  ·simp only [hy]
   by_cases hi : (!idle y || named u last) = true
   ·simp only [hi, if_true]
    by_cases hx : light x = true
    ·simp [hx]
    ·simp only [hx]
     by_cases hj : (!idle x || named v last) = true
     ·simp [hj]
     ·simp [hj]
   ·simp only [hi]
    by_cases hx : light x = true
    ·simp [hx]
    ·simp only [hx]
     by_cases hj : (!idle x || named v last) = true
     ·simp [hj]
     ·simp [hj]
theorem lets_take (last : Trm) {vs : List Int} {l : List Trm} {j : Nat} {v : Int} {x : Trm} (hv : vs[j]? = some v) (hx : l[j]? = some x) : lets last (vs.take (j + 1)) (l.take (j + 1)) = letStep last (lets last (vs.take j) (l.take j)) v x := by
 rw [List.take_add_one, List.take_add_one, hv, hx]
 have h1 := (List.getElem?_eq_some_iff.1 hv).1
 have h2 := (List.getElem?_eq_some_iff.1 hx).1
 exact lets_snoc last v x _ _ (by rw [List.length_take, List.length_take]; omega)
theorem lets_cut (last : Trm) : ∀ (vs : List Int) (l : List Trm), lets last vs (l.take vs.length) = lets last vs l
 | [], l => by simp [lets]
 | v :: vs, [] => by simp [lets]
 | v :: vs, x :: l => by
  rw [List.length_cons, List.take_succ_cons, lets, lets, lets_cut last vs l]
theorem lets_len (last : Trm) : ∀ (vs : List Int) (l : List Trm), (lets last vs l).2.1.length = (lets last vs l).2.2.length ∧ (lets last vs l).2.1.length ≤ vs.length
 | [], l => by simp [lets]
 | v :: vs, [] => by simp [lets]
 | v :: vs, x :: l => by
  have ih := lets_len last vs l
  rw [lets]
  simp only [List.length_cons]
  split
  ·exact ⟨ih.1, by have := ih.2; simp only; omega⟩
  ·split
   ·simp only [List.length_cons]; omega
   ·exact ⟨ih.1, by have := ih.2; omega⟩
theorem letT_eq {vs : List Int} {l : List Trm} {last : Trm} (h : l[vs.length]? = some last) : letT vs l = if (lets last vs l).2.1 = [] then put (lets last vs l).1.reverse last else mk 8 0 (lets last vs l).2.1 ((lets last vs l).2.2 ++ [put (lets last vs l).1.reverse last]) := by
 unfold letT
 rw [h]
 simp only
 cases (lets last vs l).2.1 with
 | nil => rfl
 | cons => rfl
end Fd
end
end Go.Proofs.YtgbibibmpoekiaaGreatDoor

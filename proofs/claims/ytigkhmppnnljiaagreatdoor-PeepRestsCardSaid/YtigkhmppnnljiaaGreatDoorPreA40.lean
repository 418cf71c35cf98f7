/-
  What the proofs lean on: RTerm.
-/
import Derived.Deep.RegionLaw
import Derived.Test.YtigkhmppnnljiaaGreatDoorPreA25
import Derived.Test.YtigkhmppnnljiaaGreatDoorPreA33
import Derived.Test.YtigkhmppnnljiaaGreatDoorPreA38
set_option maxRecDepth 100000
set_option maxHeartbeats 16000000
namespace Go.Proofs.YtigkhmppnnljiaaGreatDoor
section
open Go Go.RowKit
mutual
def Trm.slim : Trm → Prop
 | .mk _ _ v t => v.length ≤ 1152921504606846976 ∧ (t.length ≤ 2199023255552 ∧ Trm.slimL t)
def Trm.slimL : List Trm → Prop
 | [] => True
 | x :: l => Trm.slim x ∧ Trm.slimL l
end
theorem Trm.slimL_mem : ∀ {l : List Trm} {x : Trm}, Trm.slimL l → x ∈ l → x.slim
 | y :: l, x, h, hx => by
  rw [Trm.slimL] at h
  rcases List.mem_cons.1 hx with rfl | hx
  ·exact h.1
  ·exact Trm.slimL_mem h.2 hx
theorem RCk.sized {W : World} {base cb : Nat} {bsl : Value} {nc nk : Int} {fr : Bool} {size : Int} {l : List Int} {ok : Bool} (h : RCk W base cb bsl nc nk fr size l ok) (q : Int) : RCk (W.setCell ⟨cb, 4, none⟩ (.int .i64 q)) base cb bsl nc nk fr q l ok :=
 ⟨h.box.set 4 _, ownsRow_set h.row _ _ (fun r hr e => h.ne (by have e : r = cb := e; rw [← e]; exact hr)), h.ints⟩
theorem RCk.lt {W : World} {base cb : Nat} {bsl : Value} {nc nk : Int} {fr : Bool} {size : Int} {l : List Int} {ok : Bool} (h : RCk W base cb bsl nc nk fr size l ok) : ∀ b, SR cb bsl b → b < W.heap.size := fun b hb => by
 rcases hb with rfl | hb
 ·exact h.box.lt
 ·exact ownBlock_lt h.row hb
def TPost (base cb : Nat) (bsl : Value) (nc nk : Int) (fr : Bool) (r : Option (Int × List Int)) (w : World) (e : Ending) (w' : World) : Prop :=
 e = .returned (.tuple #[]) ∧ ∃ bsl', Turned (SR cb bsl) w w' ∧ (∀ b, b < w.heap.size → SR cb bsl' b → SR cb bsl b) ∧ (∀ s, r = some s → RCk w' base cb bsl' nc nk fr s.1 s.2 true) ∧ (r = none → ∃ size' l', RCk w' base cb bsl' nc nk fr size' l' false)
def RTermC (x : Trm) : Prop := ∀ (c0 c1 c2 c3 : Value) (B base cb : Nat) (bsl : Value) (nc nk size : Int) (fr ok : Bool) (l sc : List Int) (scv : Value) (deep : Int) (W : World), TrmR W B x [c0, c1, c2, c3] → RCk W base cb bsl nc nk fr size l ok → IntsM W (SR cb bsl) sc scv → (∀ b, SR cb bsl b → B ≤ b) → B ≤ base → base ≤ W.heap.size →
 (ok = true → Trm.newB (fun _ => false) l = true) → (ok = true → sc.length ≤ l.length) → 0 ≤ size → size ≤ 20000 → 0 ≤ deep → deep ≤ 401 → x.slim →
 Calls Tryz.prog 73 #[.pointer (some ⟨cb, 0, none⟩), .agg #[c0, c1, c2, c3], scv, .int .i64 deep] W (TPost base cb bsl nc nk fr (if ok = true then Trm.rchk nc nk fr x sc deep (size, l) else none) W)
theorem rchkL_at {nc nk : Int} {fr : Bool} {op : Int} {v : List Int} {sc : List Int} {deep : Int} : ∀ {ts : List Trm} {j : Nat} {x : Trm} {s : Int × List Int}, ts[j]? = some x → Trm.rchkL nc nk fr op v (ts.drop j) sc deep s = if op = 9 ∧ x.op ≠ 19 ∧ j + 1 ≠ ts.length then none else (Trm.rchk nc nk fr x (if j + 1 = ts.length ∨ op = 9 then sc ++ v else sc) (deep + 1) s).bind fun s' => Trm.rchkL nc nk fr op v (ts.drop (j + 1)) sc deep s'
 | [], j, x, s, h => by simp at h
 | [y], 0, x, s, h => by
  obtain rfl : y = x := by simpa using h
  simp only [List.drop_zero, Nat.zero_add, List.drop_succ_cons, List.length_singleton, ne_eq, not_true_eq_false, and_false, ↓reduceIte, true_or, Trm.rchkL]
  cases Trm.rchk nc nk fr y (sc ++ v) (deep + 1) s <;> rfl
 | y :: z :: l, 0, x, s, h => by
  obtain rfl : y = x := by simpa using h
  simp only [List.drop_zero, Nat.zero_add, List.drop_succ_cons, List.length_cons, Trm.rchkL]
  have h1 : ¬ (1 = l.length + 1 + 1) := by omega
  have h2 : ¬ (0 + 1 = l.length + 1 + 1) := by omega
  by_cases h9 : op = 9
  ·by_cases hx : y.op = 19
   ·simp only [h9, hx, h1, ne_eq, not_true_eq_false, and_false, false_and, or_true, ↓reduceIte]
    cases Trm.rchk nc nk fr y (sc ++ v) (deep + 1) s <;> rfl
   ·simp only [h9, hx, h1, ne_eq, not_false_eq_true, and_self, ↓reduceIte]
  ·simp only [h9, h1, ne_eq, false_and, or_self, ↓reduceIte]
   cases Trm.rchk nc nk fr y sc (deep + 1) s <;> rfl
 | y :: l, j + 1, x, s, h => by
  have := rchkL_at (nc := nc) (nk := nk) (fr := fr) (op := op) (v := v) (sc := sc) (deep := deep) (ts := l) (j := j) (x := x) (s := s) (by simpa using h)
  simpa using this
theorem step_append_intsR {W : World} {ops : Array Oper} {o : Oper} {a : Act} {K : Act → World → Prop} {Q : Exit → Act → World → Prop} {E : Prop} (hgd : o.guard = none) (s x : Operand)
  (ho : o.op = .call { callee := .builtin .append, args := #[s, x], argTypes := #[32, 32] }) (base B : Nat) (v : Value) (xs l : List Int) (hs : a.eval s = v) (hown : W.ownsRow base 3 1 v xs.length (xs.map (Value.int .i64)))
  (oa : Option Addr) (m c : Nat) (hx : a.eval x = .slice oa m c) (hsl : SlC W B 1 IntR l (.slice oa m c)) (hb : (xs.length + l.length) * 8 ≤ 140737488355328) (hbase : base ≤ W.heap.size)
  (h : ∀ v' w', Hid (w'.ownsRow base 3 1 v' (xs ++ l).length ((xs ++ l).map (Value.int .i64))) → Hid (W.grownBy w' v.ownBlock) → K (a.put o.dst v') w') :
  if Region.wanted o (yielded ops a.tmps) = true then Oper.wp Tryz.prog o a W K Q else E := by
 have hw : Region.wanted o (yielded ops a.tmps) = true := by simp [Region.wanted, hgd]
 rw [if_pos hw]
 exact wp_of_list (ops := ops) hw (wpList_append_ints hgd s x ho base B v xs l hs hown oa m c hx hsl hb hbase fun v' w' h1 h2 => ⟨rfl, h v' w' (Lib.hid h1) (Lib.hid h2)⟩)
theorem rterm_next {nc nk : Int} {fr : Bool} {op : Int} {v : List Int} {ts : List Trm} {sc : List Int} {deep : Int} {R : Option (Int × List Int)} {x : Trm} {j : Nat} {sj : Int} {lj : List Int} {base cb : Nat} {bs bsl4 : Value} {wc wr w1 w6 : World} {e : Ending} (ok' : Bool) (hx : ts[j]? = some x) (hok : ok' = true ↔ ¬ (op = 9 ∧ x.op ≠ 19 ∧ j + 1 ≠ ts.length)) (hR : Trm.rchkL nc nk fr op v (ts.drop j) sc deep (sj, lj) = R) (hn : Trm.newB (fun _ => false) lj = true) (hl : sc.length + v.length ≤ lj.length) (h0 : 0 ≤ sj)
  (ht : Turned (SR cb bsl4) wc wr) (hless : ∀ b, b < wc.heap.size → SR cb bs b → SR cb bsl4 b) (ht1 : Turned (SR cb bs) wr w1) (hp : TPost base cb bs nc nk fr (if ok' = true then Trm.rchk nc nk fr x (if j + 1 = ts.length ∨ op = 9 then sc ++ v else sc) (deep + 1) (sj, lj) else none) w1 e w6) :
  e = .returned (.tuple #[]) ∧ ∃ (bs' : Value) (okj : Bool) (s' : Int) (l' : List Int), RCk w6 base cb bs' nc nk fr s' l' okj ∧ Turned (SR cb bsl4) wc w6 ∧ (∀ b, b < wc.heap.size → SR cb bs' b → SR cb bsl4 b) ∧
   (okj = true → Trm.rchkL nc nk fr op v (ts.drop (j + 1)) sc deep (s', l') = R ∧ Trm.newB (fun _ => false) l' = true ∧ sc.length + v.length ≤ l'.length ∧ 0 ≤ s' ∧ s' ≤ 20000) ∧ (okj = false → R = none) := by
 obtain ⟨he, bs', hT, hL, hy, hno⟩ := hp
 have hTT : Turned (SR cb bsl4) wc w6 := ht.trans (ht1.next hT) fun b hb h => hless b hb h
 have hLL : ∀ b, b < wc.heap.size → SR cb bs' b → SR cb bsl4 b := fun b hb h => hless b hb (hL b (Nat.lt_of_lt_of_le (Nat.lt_of_lt_of_le hb ht.size) ht1.size) h)
 refine ⟨he, ?_⟩
 rw [rchkL_at hx] at hR
 cases ok' with
 | false =>
  have h9 : op = 9 ∧ x.op ≠ 19 ∧ j + 1 ≠ ts.length := Decidable.byContradiction fun h => by have := hok.2 h; cases this
  rw [if_pos h9] at hR
  obtain ⟨s', l', hc⟩ := hno (by simp)
  exact ⟨bs', false, s', l', hc, hTT, hLL, fun h => (by cases h), fun _ => hR.symm⟩
 | true =>
  rw [if_neg (hok.1 rfl)] at hR
  rw [if_pos rfl] at hy hno
  cases hr : Trm.rchk nc nk fr x (if j + 1 = ts.length ∨ op = 9 then sc ++ v else sc) (deep + 1) (sj, lj) with
  | none =>
   rw [hr] at hR
   obtain ⟨s', l', hc⟩ := hno hr
   exact ⟨bs', false, s', l', hc, hTT, hLL, fun h => (by cases h), fun _ => hR.symm⟩
  | some s' =>
   rw [hr] at hR
   have hc := hy s' hr
   obtain ⟨_, rfl, g3, g4⟩ := Trm.rsay x nc nk fr _ _ (sj, lj) s' hn hr
   exact ⟨bs', true, _, _, hc, hTT, hLL, fun _ => ⟨hR, g3, by simp only [List.length_append]; omega, by dsimp only at g4 ⊢; omega, g4⟩, fun h => (by cases h)⟩
theorem inner_below {w4 w6 : World} {X : Obj} {r : Option Nat} (hg : (w4.alloc X).grownBy w6 r) (hr : ∀ b, r = some b → w4.heap.size ≤ b) : Below w4.heap.size w4 w6 :=
 (Below.one w4 X).grown hg (by simp) hr
theorem countsB_v {op : Int} {nv nt : Nat} (h : Trm.countsB op nv nt = true) : nv ≤ nt := by
 unfold Trm.countsB at h
 split at h
 ·have := of_decide_eq_true h; omega
 ·rw [Bool.and_eq_true] at h
  have := of_decide_eq_true h.1
  omega
theorem rterm_node (op n : Int) (v : List Int) (ts : List Trm) (ih : ∀ x ∈ ts, RTermC x)
  (HCT : Trm.sortB op = true → ∀ (ov ot : Option Addr) (lv cv lt ct : Nat) (w : World), lv ≤ 9223372036854775806 → Calls Tryz.prog 114 #[.agg #[.int .i64 op, .int .i64 n, .slice ov lv cv, .slice ot lt ct]] w fun e w' => e = .returned (.bool (Trm.countsB op lv lt)) ∧ Below w.heap.size w w')
  (HNU : Trm.sortB op = true → ∀ (cb : Nat) (nc nk size : Int) (fr ok : Bool) (bsl : Value) (ov ot : Option Addr) (lv cv lt ct : Nat) (l : List Int) (sl : Value) (B : Nat) (w : World), BoxL w cb 114 [.int .i64 3, .int .i64 nc, .int .i64 nk, .bool fr, .int .i64 size, bsl, .bool ok] → SlC w B 1 IntR l sl → B ≤ w.heap.size →
   Calls Tryz.prog 115 #[.pointer (some ⟨cb, 0, none⟩), .agg #[.int .i64 op, .int .i64 n, .slice ov lv cv, .slice ot lt ct], sl] w fun e w' => e = .returned (.bool (Trm.numberB nc nk fr (fun v => l.contains v) op n)) ∧ Below w.heap.size w w') : RTermC (.mk op n v ts) := by
 intro c0 c1 c2 c3 B base cb bsl nc nk size fr ok l sc scv deep W hv hc hsc hS hB1 hB2 hnew hlen h0 h1 h2 h3 hsl
 obtain ⟨vs', ts', he, hop, hn, hvs, hts⟩ := trmR_iff.1 hv
 simp only [List.cons.injEq, and_true] at he
 obtain ⟨rfl, rfl, rfl, rfl⟩ := he
 obtain ⟨ov, lv, cv, rfl⟩ := hvs.form
 obtain ⟨ot, lt, ct, rfl⟩ := hts.form
 obtain ⟨osc, lsc, csc, rfl⟩ := hsc.1.form
 obtain ⟨W2, hW2⟩ : ∃ W2, (W.setCell ⟨cb, 4, none⟩ (.int .i64 (size + 1))).alloc (.cells #[.int .i64 op, .int .i64 n, .slice ov lv cv, .slice ot lt ct] 41) = W2 := ⟨_, rfl⟩
 have hbelow := Below.one W (.cells #[.int .i64 op, .int .i64 n, .slice ov lv cv, .slice ot lt ct] 41)
 have HW := Lib.hid hW2
 have HT2 := Lib.hid (show Turned (SR cb bsl) W W2 from by rw [← hW2]; exact (Turned.set (S := SR cb bsl) W _ _ (.inl rfl)).next (Turned.of_below (Below.one _ _)))
 have HC2 := Lib.hid (show RCk W2 base cb bsl nc nk fr (size + 1) l ok from by rw [← hW2]; exact (hc.sized _).keep (Below.one _ _))
 have HX2 := Lib.hid (show BoxL W2 W.heap.size 41 [.int .i64 op, .int .i64 n, .slice ov lv cv, .slice ot lt ct] from by
  rw [← hW2]
  exact BoxL.new (by rw [World.size_setCell]) _ _)
 have HLT := Lib.hid hc.lt
 have HS2 := Lib.hid (hsc.kept HT2.out (fun _ _ h => h) (fun _ _ h => h))
 have c4 := (hc.box.keep hbelow).cell 4 rfl
 have cz := (hc.box.keep hbelow).free 4
 have cl := hc.box.lt
 have HSB := Lib.hid hS
 have HV := Lib.hid hvs
 have HT := Lib.hid hts
 have HLV := Lib.hid hvs.lens.1
 have HLT2 := Lib.hid hts.lens.1
 have HNW := Lib.hid hnew
 have HLN := Lib.hid hlen
 have HIH := Lib.hid ih
 have HCT := Lib.hid HCT
 have HNU := Lib.hid HNU
 rw [Trm.slim] at hsl
 have HSL := Lib.hid hsl.2.2
 have hlt41 : lt ≤ 2199023255552 := by have := hsl.2.1; have := hts.lens.1; omega
 have hlv : lv ≤ 9223372036854775806 := by have := hsl.1; have := hvs.lens.1; omega
 have hcap : lt ≤ ct ∧ ct ≤ 9223372036854775807 := hts.lens.2
 have hsz2 : W.heap.size < W2.heap.size := HX2.out.lt
 have hBW : B ≤ W.heap.size := Nat.le_trans hB1 hB2
 obtain ⟨q, hq⟩ : ∃ q, (decide (deep ≤ 400) && (decide (size + 1 ≤ 20000) && (Trm.sortB op && (Trm.countsB op v.length ts.length && Trm.numberB nc nk fr (fun x => sc.contains x) op n)))) = q := ⟨_, rfl⟩
 have HQ := Lib.hid hq
 obtain ⟨R, hR⟩ : ∃ R, (if ok = true then Trm.rchk nc nk fr (.mk op n v ts) sc deep (size, l) else none) = R := ⟨_, rfl⟩
 rw [hR]
 have HR := Lib.hid hR
 clear hW2 hbelow hc hv hsc hvs hts hnew hlen hS ih hsl hq hR
 go_enter Tryz.func73, Tryz.ntmps73
 go_upto_region 2 with fail
 rw [HW.out]
 clear c4 cz cl
 have HD := Lib.hid ((Below.refl W2.heap.size W2).drew)
 go_cut [49] from 12 to 49 (fun c wx => c = .bool (!q) ∧ Hid (Below W2.heap.size W2 wx))
 case first => as_aux_lemma =>
  by_cases a0 : 400 < deep
  ·have g0 : decide (400 < deep) = true := decide_eq_true (by omega)
   obtain rfl : q = false := by rw [← HQ.out]; rw [decide_eq_false (show ¬ deep ≤ 400 by omega)]; rfl
   refine wp_region_quiet_all (Below W2.heap.size W2) (by kernel_rfl) (by kernel_rfl) HD.out ?_
   intro T0 _ WW HWW HWW2
   have HWH := Lib.hid HWW
   clear HWW HWW2
   repeat (go_big_quiet_step (fail))
   refine wpQuiet_nil ?_
   intro t'
   have HBB := Lib.hid (HWH.out t')
   clear HWH
   go_wp2_with fail
   go_meet
   exact ⟨rfl, HBB⟩
  by_cases a1 : 20000 < size + 1
  ·have g0 : decide (400 < deep) = false := decide_eq_false (by omega)
   have g1 : decide (20000 < size + 1) = true := decide_eq_true (by omega)
   obtain rfl : q = false := by rw [← HQ.out]; rw [decide_eq_false (show ¬ size + 1 ≤ 20000 by omega)]; simp
   refine wp_region_quiet_all (Below W2.heap.size W2) (by kernel_rfl) (by kernel_rfl) HD.out ?_
   intro T0 _ WW HWW HWW2
   have y4 : ∀ t, (WW t).cell? _ = _ := fun t => ((HWW t).cell (p := ⟨cb, 4, none⟩) HC2.out.box.lt).trans (HC2.out.box.cell 4 rfl)
   have HWH := Lib.hid HWW
   clear HWW HWW2
   repeat (go_big_quiet_step (fail))
   refine wpQuiet_nil ?_
   intro t'
   have HBB := Lib.hid (HWH.out t')
   clear HWH y4
   go_wp2_with fail
   go_meet
   exact ⟨rfl, HBB⟩
  cases hso : Trm.sortB op with
  | false =>
   have g0 : decide (400 < deep) = false := decide_eq_false (by omega)
   have g1 : decide (20000 < size + 1) = false := decide_eq_false (by omega)
   obtain rfl : q = false := by rw [← HQ.out]; rw [hso]; simp
   refine wp_region_quiet_all (Below W2.heap.size W2) (by kernel_rfl) (by kernel_rfl) HD.out ?_
   intro T0 _ WW HWW HWW2
   have y4 : ∀ t, (WW t).cell? _ = _ := fun t => ((HWW t).cell (p := ⟨cb, 4, none⟩) HC2.out.box.lt).trans (HC2.out.box.cell 4 rfl)
   have x0 : ∀ t, (WW t).cell? _ = _ := fun t => ((HWW t).cell (p := ⟨W.heap.size, 0, none⟩) HX2.out.lt).trans (HX2.out.cell 0 rfl)
   have y0 : ∀ t, (WW t).cell? _ = _ := fun t => ((HWW t).cell (p := ⟨cb, 0, none⟩) HC2.out.box.lt).trans (HC2.out.box.cell 0 rfl)
   have HSO : Hid (∀ t, Calls Tryz.prog 113 #[.int .i64 op, .int .i64 3] (WW t) fun e w' => e = .returned (.bool false) ∧ ∃ t', w' = WW t') := Lib.hid (fun t => calls_class HWW2 ((rsorts_any op (WW t)).mono fun e w' h => ⟨by rw [h.1, hso], ((HWW t).trans (h.2.mono (HWW t).size))⟩))
   have HWH := Lib.hid HWW
   clear HWW HWW2
   repeat (go_big_quiet_step (first | (go_at_call 113; exact HSO.out _) | fail))
   refine wpQuiet_nil ?_
   intro t'
   have HBB := Lib.hid (HWH.out t')
   clear HWH y4 x0 y0 HSO
   go_wp2_with fail
   go_meet
   exact ⟨rfl, HBB⟩
  | true =>
  cases hco : Trm.countsB op lv lt with
  | false =>
   have g0 : decide (400 < deep) = false := decide_eq_false (by omega)
   have g1 : decide (20000 < size + 1) = false := decide_eq_false (by omega)
   obtain rfl : q = false := by rw [← HQ.out]; rw [← HLV.out, ← HLT2.out, hco]; simp
   refine wp_region_quiet_all (Below W2.heap.size W2) (by kernel_rfl) (by kernel_rfl) HD.out ?_
   intro T0 _ WW HWW HWW2
   have y4 : ∀ t, (WW t).cell? _ = _ := fun t => ((HWW t).cell (p := ⟨cb, 4, none⟩) HC2.out.box.lt).trans (HC2.out.box.cell 4 rfl)
   have x0 : ∀ t, (WW t).cell? _ = _ := fun t => ((HWW t).cell (p := ⟨W.heap.size, 0, none⟩) HX2.out.lt).trans (HX2.out.cell 0 rfl)
   have y0 : ∀ t, (WW t).cell? _ = _ := fun t => ((HWW t).cell (p := ⟨cb, 0, none⟩) HC2.out.box.lt).trans (HC2.out.box.cell 0 rfl)
   have x1 : ∀ t, (WW t).cell? _ = _ := fun t => ((HWW t).cell (p := ⟨W.heap.size, 1, none⟩) HX2.out.lt).trans (HX2.out.cell 1 rfl)
   have x2 : ∀ t, (WW t).cell? _ = _ := fun t => ((HWW t).cell (p := ⟨W.heap.size, 2, none⟩) HX2.out.lt).trans (HX2.out.cell 2 rfl)
   have x3 : ∀ t, (WW t).cell? _ = _ := fun t => ((HWW t).cell (p := ⟨W.heap.size, 3, none⟩) HX2.out.lt).trans (HX2.out.cell 3 rfl)
   have HSO : Hid (∀ t, Calls Tryz.prog 113 #[.int .i64 op, .int .i64 3] (WW t) fun e w' => e = .returned (.bool true) ∧ ∃ t', w' = WW t') := Lib.hid (fun t => calls_class HWW2 ((rsorts_any op (WW t)).mono fun e w' h => ⟨by rw [h.1, hso], ((HWW t).trans (h.2.mono (HWW t).size))⟩))
   have HCO : Hid (∀ t, Calls Tryz.prog 114 #[.agg #[.int .i64 op, .int .i64 n, .slice ov lv cv, .slice ot lt ct]] (WW t) fun e w' => e = .returned (.bool false) ∧ ∃ t', w' = WW t') := Lib.hid (fun t => calls_class HWW2 ((HCT.out hso ov ot lv cv lt ct (WW t) hlv).mono fun e w' h => ⟨by rw [h.1, hco], ((HWW t).trans (h.2.mono (HWW t).size))⟩))
   have HWH := Lib.hid HWW
   clear HWW HWW2
   repeat (go_big_quiet_step (first | (go_at_call 113; exact HSO.out _) | (go_at_call 114; exact HCO.out _) | fail))
   refine wpQuiet_nil ?_
   intro t'
   have HBB := Lib.hid (HWH.out t')
   clear HWH y4 x0 y0 x1 x2 x3 HSO HCO
   go_wp2_with fail
   go_meet
   exact ⟨rfl, HBB⟩
  | true =>
   have hno : Trm.numberB nc nk fr (fun x => sc.contains x) op n = q := by rw [← HQ.out, ← HLV.out, ← HLT2.out, hso, hco, decide_eq_true (show deep ≤ 400 by omega), decide_eq_true (show size + 1 ≤ 20000 by omega)]; simp
   have g0 : decide (400 < deep) = false := decide_eq_false (by omega)
   have g1 : decide (20000 < size + 1) = false := decide_eq_false (by omega)
   refine wp_region_quiet_all (Below W2.heap.size W2) (by kernel_rfl) (by kernel_rfl) HD.out ?_
   intro T0 _ WW HWW HWW2
   have y4 : ∀ t, (WW t).cell? _ = _ := fun t => ((HWW t).cell (p := ⟨cb, 4, none⟩) HC2.out.box.lt).trans (HC2.out.box.cell 4 rfl)
   have x0 : ∀ t, (WW t).cell? _ = _ := fun t => ((HWW t).cell (p := ⟨W.heap.size, 0, none⟩) HX2.out.lt).trans (HX2.out.cell 0 rfl)
   have y0 : ∀ t, (WW t).cell? _ = _ := fun t => ((HWW t).cell (p := ⟨cb, 0, none⟩) HC2.out.box.lt).trans (HC2.out.box.cell 0 rfl)
   have x1 : ∀ t, (WW t).cell? _ = _ := fun t => ((HWW t).cell (p := ⟨W.heap.size, 1, none⟩) HX2.out.lt).trans (HX2.out.cell 1 rfl)
   have x2 : ∀ t, (WW t).cell? _ = _ := fun t => ((HWW t).cell (p := ⟨W.heap.size, 2, none⟩) HX2.out.lt).trans (HX2.out.cell 2 rfl)
   have x3 : ∀ t, (WW t).cell? _ = _ := fun t => ((HWW t).cell (p := ⟨W.heap.size, 3, none⟩) HX2.out.lt).trans (HX2.out.cell 3 rfl)
   have HSO : Hid (∀ t, Calls Tryz.prog 113 #[.int .i64 op, .int .i64 3] (WW t) fun e w' => e = .returned (.bool true) ∧ ∃ t', w' = WW t') := Lib.hid (fun t => calls_class HWW2 ((rsorts_any op (WW t)).mono fun e w' h => ⟨by rw [h.1, hso], ((HWW t).trans (h.2.mono (HWW t).size))⟩))
   have HCO : Hid (∀ t, Calls Tryz.prog 114 #[.agg #[.int .i64 op, .int .i64 n, .slice ov lv cv, .slice ot lt ct]] (WW t) fun e w' => e = .returned (.bool true) ∧ ∃ t', w' = WW t') := Lib.hid (fun t => calls_class HWW2 ((HCT.out hso ov ot lv cv lt ct (WW t) hlv).mono fun e w' h => ⟨by rw [h.1, hco], ((HWW t).trans (h.2.mono (HWW t).size))⟩))
   have HNO : Hid (∀ t, Calls Tryz.prog 115 #[.pointer (some ⟨cb, 0, none⟩), .agg #[.int .i64 op, .int .i64 n, .slice ov lv cv, .slice ot lt ct], .slice osc lsc csc] (WW t) fun e w' => e = .returned (.bool q) ∧ ∃ t', w' = WW t') := Lib.hid (fun t => calls_class HWW2 ((HNU.out hso cb nc nk _ fr ok bsl ov ot lv cv lt ct sc _ _ (WW t) (HC2.out.box.keep (HWW t)) (HS2.out.1.kept (HWW t) fun _ _ _ h => h) (HWW t).size).mono fun e w' h => ⟨by rw [h.1, hno], ((HWW t).trans (h.2.mono (HWW t).size))⟩))
   have HWH := Lib.hid HWW
   clear HWW HWW2
   repeat (go_big_quiet_step (first | (go_at_call 113; exact HSO.out _) | (go_at_call 114; exact HCO.out _) | (go_at_call 115; exact HNO.out _) | fail))
   refine wpQuiet_nil ?_
   intro t'
   have HBB := Lib.hid (HWH.out t')
   clear HWH y4 x0 y0 x1 x2 x3 HSO HCO HNO
   go_wp2_with fail
   go_meet
   exact ⟨rfl, HBB⟩
 case rest =>
 obtain ⟨rfl, HB3⟩ := hcut
 have HC3 := Lib.hid (HC2.out.keep HB3.out)
 have HX3 := Lib.hid (HX2.out.keep HB3.out)
 have HT3 := Lib.hid (HT2.out.next (Turned.of_below HB3.out))
 have HS3 := Lib.hid (HS2.out.below HB3.out)
 have hzB := HB3.out.size
 clear HC2 HX2 HT2 HS2 HD
 cases q with
 | false =>
  obtain rfl : R = none := by
   rw [← HR.out]
   cases ok with
   | false => rfl
   | true => rw [if_pos rfl, Trm.rchk, HQ.out]; rfl
  have c6 := HC3.out.box.cell 6 rfl
  have cz := HC3.out.box.free 6
  have cl := HC3.out.box.lt
  go_upto_region 4 with fail
  obtain ⟨W4, hW4⟩ : ∃ W4, wc.setCell ⟨cb, 6, none⟩ (.bool false) = W4 := ⟨_, rfl⟩
  have HC4 := Lib.hid (hW4 ▸ HC3.out.failed false)
  have HT4 := Lib.hid (show Turned (SR cb bsl) W W4 from hW4 ▸ HT3.out.next (Turned.set _ ⟨cb, 6, none⟩ (.bool false) (.inl rfl)))
  rw [hW4]
  clear c6 cz cl hW4 HC3 HX3 HT3 HS3
  have c6 := HC4.out.box.cell 6 rfl
  have cl := HC4.out.box.lt
  go_wp2_with fail
  first | go_end0 | (refine bodyPost_ret (results_none rfl _ _ _) rfl ?_) | fail
  exact ⟨rfl, bsl, HT4.out, fun _ _ h => h, fun s h => (by cases h), fun _ => ⟨_, _, HC4.out⟩⟩
 | true =>
 cases ok with
 | false =>
  obtain rfl : R = none := by rw [← HR.out]; rfl
  have c6 := HC3.out.box.cell 6 rfl
  have cl := HC3.out.box.lt
  go_wp2_with fail
  first | go_end0 | (refine bodyPost_ret (results_none rfl _ _ _) rfl ?_) | fail
  exact ⟨rfl, bsl, HT3.out, fun _ _ h => h, fun s h => (by cases h), fun _ => ⟨_, _, HC3.out⟩⟩
 | true =>
 have HR2 := Lib.hid (show (if Trm.newB (fun _ => false) (l ++ v) = true then Trm.rchkL nc nk fr op v ts sc deep (size + 1, l ++ v) else none) = R from by rw [← HR.out, if_pos rfl, Trm.rchk, HQ.out, if_pos rfl])
 have h1s : size + 1 ≤ 20000 := by
  have h := HQ.out
  simp only [Bool.and_eq_true, decide_eq_true_eq] at h
  exact h.2.1
 have h3s : deep ≤ 400 := by
  have h := HQ.out
  simp only [Bool.and_eq_true, decide_eq_true_eq] at h
  exact h.1
 have h7 : op ≠ 7 := fun e => by
  have h := HQ.out
  simp only [Bool.and_eq_true] at h
  rw [e] at h
  exact absurd h.2.2.1 (by decide)
 have hv8 : v.length ≤ 2199023255552 := by
  have h := HQ.out
  simp only [Bool.and_eq_true] at h
  have h5 := countsB_v h.2.2.2.1
  have := HLT2.out
  omega
 clear HR HQ
 have c6 := HC3.out.box.cell 6 rfl
 have cl := HC3.out.box.lt
 have x2 := HX3.out.cell 2 rfl
 have xl := HX3.out.lt
 have HV3 := Lib.hid (HV.out.kept (HT3.out.below HSB.out hBW) fun _ _ _ h => h)
 have hz3 := HT3.out.size
 go_wp2_with fail
 refine (rbind_any base cb bsl nc nk (size + 1) fr l v ov lv cv B wc HC3.out HV3.out (by omega) HSB.out ⟨hB1, by omega⟩ (HNW.out (by simp))).mono ?_
 intro e w4 hp4
 obtain ⟨rfl, bsl4, hT4, hL4, hy4, hn4⟩ := hp4
 obtain ⟨qb, hqb⟩ : ∃ qb, Trm.newB (fun _ => false) (l ++ v) = qb := ⟨_, rfl⟩
 rw [hqb] at hy4 hn4
 obtain ⟨size4, l4, hc4, hs4⟩ : ∃ size4 l4, RCk w4 base cb bsl4 nc nk fr size4 l4 qb ∧ (qb = true → size4 = size + 1 ∧ l4 = l ++ v) := by
  cases qb with
  | true => exact ⟨_, _, hy4 rfl, fun _ => ⟨rfl, rfl⟩⟩
  | false =>
   obtain ⟨s', l', h⟩ := hn4 rfl
   exact ⟨s', l', h, fun h => (by cases h)⟩
 have HQB := Lib.hid hqb
 have HC4 := Lib.hid hc4
 have HS4' := Lib.hid hs4
 have HX4 := Lib.hid (hT4.box HX3.out (fun hs => absurd (HLT.out _ hs) (Nat.lt_irrefl _)))
 have HI4 := Lib.hid (HS3.out.kept hT4 (fun _ _ h => h) hL4)
 have HT4 := Lib.hid (HT3.out.next hT4)
 have HL4 := Lib.hid (show ∀ b, b < W.heap.size → SR cb bsl4 b → SR cb bsl b from fun b hb h => hL4 b (by omega) h)
 have HNS := Lib.hid (show ¬ SR cb bsl4 W.heap.size from fun h => absurd (HLT.out _ (hL4 _ (by omega) h)) (Nat.lt_irrefl _))
 have hz4 : wc.heap.size ≤ w4.heap.size := hT4.size
 clear hqb hc4 hs4 hT4 hL4 hy4 hn4 c6 cl x2 xl HC3 HX3 HT3 HS3 HB3 HV3
 have HV4 := Lib.hid (HV.out.kept (HT4.out.below HSB.out hBW) fun _ _ _ h => h)
 have hsc8 : sc.length ≤ 1000001 := Nat.le_trans (HLN.out (by simp)) (Trm.newB_short (HNW.out (by simp)))
 go_upto_region 6 with fail
 go_cut [8] from 12 to 67 (fun c wx => (∃ o' n' c', c = .slice o' n' c') ∧ Hid (IntsM wx (SR cb bsl4) (sc ++ v) c) ∧ Hid (Below w4.heap.size w4 wx))
 case first => as_aux_lemma =>
  have x2 := HX4.out.cell 2 rfl
  have xl := HX4.out.lt
  go_region_law (first
   | (refine step_append_intsR rfl (.tmp 62) (.tmp 63) rfl w4.heap.size w4.heap.size (.slice (some ⟨w4.heap.size, 0, none⟩) 0 0) [] sc rfl (ownsRow_new rfl (Nat.le_refl _) 3 1 0 [] rfl (by decide)) osc lsc csc rfl (HI4.out.1.kept (Below.one w4 (.cells #[] 3)).drew fun _ _ _ h => h) (by simp; omega) (by simp) ?_; intro v6 w6 HO6 HG6; have HB6 := Lib.hid (inner_below (grown_drew HG6.out) (fun b h => by simp only [Value.ownBlock, Option.some.injEq] at h; omega)); have x6 := (HX4.out.keep HB6.out).cell 2 rfl; have xl6 := (HX4.out.keep HB6.out).lt)
   | (refine step_append_intsR rfl (.tmp 64) (.tmp 66) rfl w4.heap.size B v6 sc v rfl (by simpa using HO6.out) ov lv cv rfl (HV4.out.kept (HB6.out.mono (by omega)) fun _ _ _ h => h) (by omega) (HB6.out.size) ?_; intro v7 w7 HO7 HG7)
   | fail)
  all_goals
   have hge : ∀ b, v7.ownBlock = some b → w4.heap.size ≤ b := fun b h => ownBlock_base HO7.out h
   have hb7 : Below w4.heap.size w4 w7 := HB6.out.grown HG7.out HB6.out.size (fun b h => ownBlock_base HO6.out h)
   have HIN := Lib.hid (show IntsM w7 (SR cb bsl4) (sc ++ v) v7 from IntsM.of_row HO7.out (fun y hy => (List.mem_append.1 hy).elim (HI4.out.1.i64 y) (HV4.out.i64 y)) (fun b h hs => by have := hge b h; have := HC4.out.lt b hs; omega))
   have HB7 := Lib.hid hb7
   clear hb7 hge
   have hfm : ∃ o' n' c', v7 = .slice o' n' c' := by
    obtain ⟨o', n', c', h, _⟩ := HIN.out.1
    exact ⟨o', n', c', h⟩
   go_wp2_with fail
   go_meet
   exact ⟨hfm, HIN, HB7⟩
 case rest =>
 obtain ⟨⟨o8, n8, c8, rfl⟩, HI8, HB8⟩ := hcut
 have HX5 := Lib.hid (HX4.out.keep HB8.out)
 have HC5 := Lib.hid (HC4.out.keep HB8.out)
 have HI5 := Lib.hid (HI4.out.below HB8.out)
 have HT5 := Lib.hid (HT4.out.next (Turned.of_below HB8.out))
 have hz5 := HB8.out.size
 clear HX4 HC4 HI4 HT4 HV4
 have HY5 := Lib.hid (show (qb = true → Trm.rchkL nc nk fr op v (ts.drop 0) sc deep (size4, l4) = R ∧ Trm.newB (fun _ => false) l4 = true ∧ sc.length + v.length ≤ l4.length ∧ 0 ≤ size4 ∧ size4 ≤ 20000) ∧ (qb = false → R = none) from by
  have hr := HR2.out
  rw [HQB.out] at hr
  refine ⟨fun h => ?_, fun h => ?_⟩
  ·obtain ⟨rfl, rfl⟩ := HS4'.out h
   rw [if_pos h] at hr
   have := HLN.out (by simp)
   have hn := HQB.out
   rw [h] at hn
   exact ⟨hr, hn, by simp only [List.length_append]; omega, by omega, h1s⟩
  ·rw [h] at hr
   exact hr.symm)
 clear HR2 HS4' HQB HNW
 go_wp2_with fail
 go_loopg [9] lt (fun g i wr => ∃ (j : Nat) (bs : Value) (okj : Bool) (sj : Int) (lj : List Int), g = lt - j ∧ j ≤ lt ∧ i = .int .i64 j ∧ Hid (RCk wr base cb bs nc nk fr sj lj okj) ∧ Hid (Turned (SR cb bsl4) wc wr) ∧ Hid (∀ b, b < wc.heap.size → SR cb bs b → SR cb bsl4 b) ∧
  Hid (okj = true → Trm.rchkL nc nk fr op v (ts.drop j) sc deep (sj, lj) = R ∧ Trm.newB (fun _ => false) lj = true ∧ sc.length + v.length ≤ lj.length ∧ 0 ≤ sj ∧ sj ≤ 20000) ∧ Hid (okj = false → R = none))
 case atStart => exact ⟨0, bsl4, qb, size4, l4, rfl, by omega, rfl, HC5, Lib.hid (Turned.refl _ _), Lib.hid (fun _ _ h => h), Lib.hid HY5.out.1, Lib.hid HY5.out.2⟩
 case round =>
  obtain ⟨j, bs, okj, sj, lj, rfl, hj, rfl, HCJ, HTJ, HLJ, HYJ, HNJ⟩ := hrel
  have HXJ := Lib.hid (HTJ.out.box HX5.out HNS.out)
  have HTW := Lib.hid (show Turned (SR cb bsl) W wr from HT5.out.trans HTJ.out fun b hb h => HL4.out b hb h)
  have HLW := Lib.hid (show ∀ b, b < W.heap.size → SR cb bs b → SR cb bsl b from fun b hb h => HL4.out b hb (HLJ.out b (by omega) h))
  have x0 := HXJ.out.cell 0 rfl
  have x3 := HXJ.out.cell 3 rfl
  have xl := HXJ.out.lt
  have c0 := HCJ.out.box.cell 0 rfl
  have c6 := HCJ.out.box.cell 6 rfl
  have cz := HCJ.out.box.free 6
  have cl := HCJ.out.box.lt
  cases okj with
  | false =>
   have HRN := Lib.hid (HNJ.out rfl)
   by_cases hjl : j < lt
   ·go_wp2_with fail
    first | go_end0 | (refine bodyPost_ret (results_none rfl _ _ _) rfl ?_) | fail
    exact ⟨rfl, bs, HTW.out, HLW.out, fun s h => (by rw [HRN.out] at h; cases h), fun _ => ⟨_, _, HCJ.out⟩⟩
   ·go_wp2_with fail
    first | go_end0 | (refine bodyPost_ret (results_none rfl _ _ _) rfl ?_) | fail
    exact ⟨rfl, bs, HTW.out, HLW.out, fun s h => (by rw [HRN.out] at h; cases h), fun _ => ⟨_, _, HCJ.out⟩⟩
  | true =>
   by_cases hjl : j < lt
   ·obtain ⟨x, hx⟩ : ∃ x, ts[j]? = some x := ⟨_, List.getElem?_eq_getElem (by rw [← HLT2.out]; exact hjl)⟩
    obtain ⟨b9, off9, cs, ho9, hbB, hcl, hcell, hr⟩ := SlC.at HT.out (HTW.out.below HSB.out hBW) hx
    subst ho9
    match cs, hcl with
    | [d0, d1, d2, d3], _ =>
     have e0 := hcell 0 _ rfl
     have e1 := hcell 1 _ rfl
     have e2 := hcell 2 _ rfl
     have e3 := hcell 3 _ rfl
     simp only [Nat.add_zero] at e0
     have el := cell_lt e0
     obtain ⟨qa, qb', qc, qd, qe, qf, rfl, rfl, rfl, rfl, _⟩ := TrmR.shape hr
     have HRX := Lib.hid (TrmR.kept (HTW.out.below HSB.out hBW) _ _ hr)
     have HMX := Lib.hid (HIH.out x (List.mem_of_getElem? hx))
     have HSX := Lib.hid (Trm.slimL_mem HSL.out (List.mem_of_getElem? hx))
     obtain ⟨y1, y2, y3, y4, y5⟩ := HYJ.out rfl
     have HY1 := Lib.hid y1
     have HY2 := Lib.hid y2
     have HY3 := Lib.hid y3
     have HIJ := Lib.hid (show IntsM wr (SR cb bs) sc (.slice osc lsc csc) from HI5.out.kept HTJ.out (fun _ _ h => h) HLJ.out)
     have HKJ := Lib.hid (show IntsM wr (SR cb bs) (sc ++ v) (.slice o8 n8 c8) from HI8.out.kept HTJ.out (fun _ _ h => h) HLJ.out)
     have HSJ := Lib.hid (show ∀ b, SR cb bs b → B ≤ b from fun b h => by
      by_cases hb : b < W.heap.size
      ·exact HSB.out b (HLW.out b hb h)
      ·omega)
     have HEX := Lib.hid hx
     have hbr : base ≤ wr.heap.size := Nat.le_trans hB2 HTW.out.size
     have HXK := HXJ
     have HNB := Lib.hid (show ¬ SR cb bs W.heap.size from fun h => HNS.out (HLJ.out _ (by omega) h))
     have HPT := Lib.hid (show PartAt wr B b9 (off9 + j * 4) x (.int .i64 x.op) (.int .i64 x.n) (.slice qa qb' qc) (.slice qd qe qf) from ⟨hbB, e0, e1, e2, e3, HRX.out⟩)
     clear y1 y2 y3 hx hr hcell hcl HXJ HYJ HNJ
     have f7 : (op == 7) = false := by simpa using h7
     by_cases hla : j + 1 = lt
     ·have f1 : ((j : Int) == (lt : Int) - 1) = true := by simp; omega
      by_cases h9 : op = 9
      ·have f9 : (op == 9) = true := by simp [h9]
       have H9 := Lib.hid h9
       clear h9
       have HCA := Lib.hid (HMX.out _ _ _ _ B base cb bs nc nk sj fr true lj (sc ++ v) _ (deep + 1) wr HRX.out HCJ.out HKJ.out HSJ.out hB1 hbr (fun _ => HY2.out) (fun _ => by simp only [List.length_append]; exact HY3.out) y4 y5 (by omega) (by omega) HSX.out)
       clear HRX HKJ HIJ HMX
       go_wp2_with fail
       with_reducible refine HCA.out.mono ?_
       intro e w6 hp6
       have HP6 := Lib.hid (rterm_next true HEX.out ⟨fun _ h => h.2.2 (by rw [← HLT2.out]; exact hla), fun _ => rfl⟩ HY1.out HY2.out HY3.out y4 HTJ.out HLJ.out (Turned.refl _ _) (by rw [if_pos (Or.inl (by rw [← HLT2.out]; exact hla))]; exact hp6))
       obtain rfl := HP6.out.1
       clear hp6 HCA x0 x3 xl c0 c6 cz cl e0 e1 e2 e3 el
       go_wp2_with fail
       obtain ⟨bs', ok2, s2, l2, g1, g2, g3, g4, g5⟩ := HP6.out.2
       go_roundg (lt - (j + 1))
       case measure => omega
       case rel => exact ⟨j + 1, bs', ok2, s2, l2, rfl, by omega, by go_num, Lib.hid g1, Lib.hid g2, Lib.hid g3, Lib.hid g4, Lib.hid g5⟩
      ·have f9 : (op == 9) = false := by simp [h9]
       have HCA := Lib.hid (HMX.out _ _ _ _ B base cb bs nc nk sj fr true lj (sc ++ v) _ (deep + 1) wr HRX.out HCJ.out HKJ.out HSJ.out hB1 hbr (fun _ => HY2.out) (fun _ => by simp only [List.length_append]; exact HY3.out) y4 y5 (by omega) (by omega) HSX.out)
       clear HRX HKJ HIJ HMX
       go_wp2_with fail
       with_reducible refine HCA.out.mono ?_
       intro e w6 hp6
       have HP6 := Lib.hid (rterm_next true HEX.out ⟨fun _ h => h.2.2 (by rw [← HLT2.out]; exact hla), fun _ => rfl⟩ HY1.out HY2.out HY3.out y4 HTJ.out HLJ.out (Turned.refl _ _) (by rw [if_pos (Or.inl (by rw [← HLT2.out]; exact hla))]; exact hp6))
       obtain rfl := HP6.out.1
       clear hp6 HCA x0 x3 xl c0 c6 cz cl e0 e1 e2 e3 el
       go_wp2_with fail
       obtain ⟨bs', ok2, s2, l2, g1, g2, g3, g4, g5⟩ := HP6.out.2
       go_roundg (lt - (j + 1))
       case measure => omega
       case rel => exact ⟨j + 1, bs', ok2, s2, l2, rfl, by omega, by go_num, Lib.hid g1, Lib.hid g2, Lib.hid g3, Lib.hid g4, Lib.hid g5⟩
     ·have f1 : ((j : Int) == (lt : Int) - 1) = false := by simp; omega
      by_cases h9 : op = 9
      ·by_cases hx19 : x.op = 19
       ·have f9 : (op == 9) = true := by simp [h9]
        have H9 := Lib.hid h9
        clear h9
        have f19 : (x.op == 19) = true := by simp [hx19]
        have H19 := Lib.hid hx19
        clear hx19
        obtain ⟨W1, hW1⟩ : ∃ W1, wr.setCell ⟨cb, 6, none⟩ (.bool true) = W1 := ⟨_, rfl⟩
        have HWE := Lib.hid hW1
        have HT1 := Lib.hid (show Turned (SR cb bs) wr W1 from by rw [← hW1]; exact Turned.set _ _ _ (.inl rfl))
        have HC1 := Lib.hid (show RCk W1 base cb bs nc nk fr sj lj true from by rw [← hW1]; exact HCJ.out.failed _)
        have HK1 := Lib.hid (show IntsM W1 (SR cb bs) (sc ++ v) (.slice o8 n8 c8) from HKJ.out.kept HT1.out (fun _ _ h => h) (fun _ _ h => h))
        have HR1 := Lib.hid (TrmR.kept (HT1.out.below HSJ.out (by omega)) _ _ HRX.out)
        have HX1 := Lib.hid (HT1.out.box HXK.out (fun h => HNB.out h))
        have hb1 : base ≤ W1.heap.size := Nat.le_trans hbr HT1.out.size
        clear hW1
        have HCA := Lib.hid (HMX.out _ _ _ _ B base cb bs nc nk sj fr true lj (sc ++ v) _ (deep + 1) W1 HR1.out HC1.out HK1.out HSJ.out hB1 hb1 (fun _ => HY2.out) (fun _ => by simp only [List.length_append]; exact HY3.out) y4 y5 (by omega) (by omega) HSX.out)
        clear HRX HKJ HIJ HMX
        go_upto_region 16 with fail
        rw [HWE.out]
        clear x0 x3 xl c0 c6 cz cl e0 e1 e2 e3 el
        have HP1 := Lib.hid (HPT.out.kept (HT1.out.below HSJ.out (by omega)))
        have x0 := HX1.out.cell 0 rfl
        have x3 := HX1.out.cell 3 rfl
        have xl := HX1.out.lt
        have e0 := HP1.out.e0
        have e1 := HP1.out.e1
        have e2 := HP1.out.e2
        have e3 := HP1.out.e3
        have el := HP1.out.size
        go_wp2_with fail
        with_reducible refine HCA.out.mono ?_
        intro e w6 hp6
        have HP6 := Lib.hid (rterm_next true HEX.out ⟨fun _ h => h.2.1 H19.out, fun _ => rfl⟩ HY1.out HY2.out HY3.out y4 HTJ.out HLJ.out HT1.out (by rw [if_pos (Or.inr H9.out)]; exact hp6))
        obtain rfl := HP6.out.1
        clear hp6 HCA x0 x3 xl e0 e1 e2 e3 el
        go_wp2_with fail
        obtain ⟨bs', ok2, s2, l2, g1, g2, g3, g4, g5⟩ := HP6.out.2
        go_roundg (lt - (j + 1))
        case measure => omega
        case rel => exact ⟨j + 1, bs', ok2, s2, l2, rfl, by omega, by go_num, Lib.hid g1, Lib.hid g2, Lib.hid g3, Lib.hid g4, Lib.hid g5⟩
       ·have f9 : (op == 9) = true := by simp [h9]
        have H9 := Lib.hid h9
        clear h9
        have f19 : (x.op == 19) = false := by simp [hx19]
        obtain ⟨W1, hW1⟩ : ∃ W1, wr.setCell ⟨cb, 6, none⟩ (.bool false) = W1 := ⟨_, rfl⟩
        have HWE := Lib.hid hW1
        have HT1 := Lib.hid (show Turned (SR cb bs) wr W1 from by rw [← hW1]; exact Turned.set _ _ _ (.inl rfl))
        have HC1 := Lib.hid (show RCk W1 base cb bs nc nk fr sj lj false from by rw [← hW1]; exact HCJ.out.failed _)
        have HK1 := Lib.hid (show IntsM W1 (SR cb bs) (sc ++ v) (.slice o8 n8 c8) from HKJ.out.kept HT1.out (fun _ _ h => h) (fun _ _ h => h))
        have HR1 := Lib.hid (TrmR.kept (HT1.out.below HSJ.out (by omega)) _ _ HRX.out)
        have HX1 := Lib.hid (HT1.out.box HXK.out (fun h => HNB.out h))
        have hb1 : base ≤ W1.heap.size := Nat.le_trans hbr HT1.out.size
        clear hW1
        have HCA := Lib.hid (HMX.out _ _ _ _ B base cb bs nc nk sj fr false lj (sc ++ v) _ (deep + 1) W1 HR1.out HC1.out HK1.out HSJ.out hB1 hb1 (fun _ => HY2.out) (fun _ => by simp only [List.length_append]; exact HY3.out) y4 y5 (by omega) (by omega) HSX.out)
        clear HRX HKJ HIJ HMX
        go_upto_region 16 with fail
        rw [HWE.out]
        clear x0 x3 xl c0 c6 cz cl e0 e1 e2 e3 el
        have HP1 := Lib.hid (HPT.out.kept (HT1.out.below HSJ.out (by omega)))
        have x0 := HX1.out.cell 0 rfl
        have x3 := HX1.out.cell 3 rfl
        have xl := HX1.out.lt
        have e0 := HP1.out.e0
        have e1 := HP1.out.e1
        have e2 := HP1.out.e2
        have e3 := HP1.out.e3
        have el := HP1.out.size
        go_wp2_with fail
        with_reducible refine HCA.out.mono ?_
        intro e w6 hp6
        have HP6 := Lib.hid (rterm_next false HEX.out ⟨fun h => (by cases h), fun h => absurd ⟨H9.out, hx19, by rw [← HLT2.out]; exact hla⟩ h⟩ HY1.out HY2.out HY3.out y4 HTJ.out HLJ.out HT1.out hp6)
        obtain rfl := HP6.out.1
        clear hp6 HCA x0 x3 xl e0 e1 e2 e3 el
        go_wp2_with fail
        obtain ⟨bs', ok2, s2, l2, g1, g2, g3, g4, g5⟩ := HP6.out.2
        go_roundg (lt - (j + 1))
        case measure => omega
        case rel => exact ⟨j + 1, bs', ok2, s2, l2, rfl, by omega, by go_num, Lib.hid g1, Lib.hid g2, Lib.hid g3, Lib.hid g4, Lib.hid g5⟩
      ·have f9 : (op == 9) = false := by simp [h9]
       have HCA := Lib.hid (HMX.out _ _ _ _ B base cb bs nc nk sj fr true lj sc _ (deep + 1) wr HRX.out HCJ.out HIJ.out HSJ.out hB1 hbr (fun _ => HY2.out) (fun _ => by have := HY3.out; omega) y4 y5 (by omega) (by omega) HSX.out)
       clear HRX HKJ HIJ HMX
       go_wp2_with fail
       with_reducible refine HCA.out.mono ?_
       intro e w6 hp6
       have HP6 := Lib.hid (rterm_next true HEX.out ⟨fun _ h => h9 h.1, fun _ => rfl⟩ HY1.out HY2.out HY3.out y4 HTJ.out HLJ.out (Turned.refl _ _) (by rw [show (if j + 1 = ts.length ∨ op = 9 then sc ++ v else sc) = sc from if_neg (fun h => h.elim (fun h => hla (by rw [HLT2.out]; exact h)) h9)]; exact hp6))
       obtain rfl := HP6.out.1
       clear hp6 HCA x0 x3 xl c0 c6 cz cl e0 e1 e2 e3 el
       go_wp2_with fail
       obtain ⟨bs', ok2, s2, l2, g1, g2, g3, g4, g5⟩ := HP6.out.2
       go_roundg (lt - (j + 1))
       case measure => omega
       case rel => exact ⟨j + 1, bs', ok2, s2, l2, rfl, by omega, by go_num, Lib.hid g1, Lib.hid g2, Lib.hid g3, Lib.hid g4, Lib.hid g5⟩
   ·obtain rfl : j = lt := by omega
    have HRN := Lib.hid (show R = some (sj, lj) from by
     rw [← (HYJ.out rfl).1, List.drop_eq_nil_of_le (by rw [← HLT2.out]; exact Nat.le_refl _), Trm.rchkL])
    go_wp2_with fail
    first | go_end0 | (refine bodyPost_ret (results_none rfl _ _ _) rfl ?_) | fail
    exact ⟨rfl, bs, HTW.out, HLW.out, fun s h => (by rw [HRN.out] at h; cases h; exact HCJ.out), fun h => (by rw [HRN.out] at h; cases h)⟩
theorem rterm_any (x : Trm) : RTermC x := by
 induction x using Trm.ind with
 | _ op n v ts ih =>
 cases hso : Trm.sortB op with
 | false => exact rterm_node op n v ts ih (fun h => by rw [hso] at h; cases h) (fun h => by rw [hso] at h; cases h)
 | true =>
 have hop : op = 0 ∨ op = 1 ∨ op = 3 ∨ op = 5 ∨ op = 6 ∨ op = 8 ∨ op = 9 ∨ op = 10 ∨ op = 11 ∨ op = 12 ∨ op = 13 ∨ op = 15 ∨ op = 16 ∨ op = 17 ∨ op = 18 ∨ op = 19 ∨ op = 20 ∨ op = 21 ∨ op = 22 := by simpa [Trm.sortB] using hso
 clear hso
 rcases hop with rfl | rfl | rfl | rfl | rfl | rfl | rfl | rfl | rfl | rfl | rfl | rfl | rfl | rfl | rfl | rfl | rfl | rfl | rfl
 ·exact rterm_node 0 n v ts ih (fun _ ov ot lv cv lt ct w h => rcounts_0 n ov ot lv cv lt ct w h) (fun _ cb nc nk size fr ok bsl ov ot lv cv lt ct l sl B w hc hs hB => rnumber_0 cb nc nk size fr ok bsl n ov ot lv cv lt ct l sl B w hc hs hB)
 ·exact rterm_node 1 n v ts ih (fun _ ov ot lv cv lt ct w h => rcounts_1 n ov ot lv cv lt ct w h) (fun _ cb nc nk size fr ok bsl ov ot lv cv lt ct l sl B w hc hs hB => rnumber_1 cb nc nk size fr ok bsl n ov ot lv cv lt ct l sl B w hc hs hB)
 ·exact rterm_node 3 n v ts ih (fun _ ov ot lv cv lt ct w h => rcounts_3 n ov ot lv cv lt ct w h) (fun _ cb nc nk size fr ok bsl ov ot lv cv lt ct l sl B w hc hs hB => rnumber_3 cb nc nk size fr ok bsl n ov ot lv cv lt ct l sl B w hc hs hB)
 ·exact rterm_node 5 n v ts ih (fun _ ov ot lv cv lt ct w h => rcounts_5 n ov ot lv cv lt ct w h) (fun _ cb nc nk size fr ok bsl ov ot lv cv lt ct l sl B w hc hs hB => rnumber_5 cb nc nk size fr ok bsl n ov ot lv cv lt ct l sl B w hc hs hB)
 ·exact rterm_node 6 n v ts ih (fun _ ov ot lv cv lt ct w h => rcounts_6 n ov ot lv cv lt ct w h) (fun _ cb nc nk size fr ok bsl ov ot lv cv lt ct l sl B w hc hs hB => rnumber_6 cb nc nk size fr ok bsl n ov ot lv cv lt ct l sl B w hc hs hB)
 ·exact rterm_node 8 n v ts ih (fun _ ov ot lv cv lt ct w h => rcounts_8 n ov ot lv cv lt ct w h) (fun _ cb nc nk size fr ok bsl ov ot lv cv lt ct l sl B w hc hs hB => rnumber_8 cb nc nk size fr ok bsl n ov ot lv cv lt ct l sl B w hc hs hB)
 ·exact rterm_node 9 n v ts ih (fun _ ov ot lv cv lt ct w h => rcounts_9 n ov ot lv cv lt ct w h) (fun _ cb nc nk size fr ok bsl ov ot lv cv lt ct l sl B w hc hs hB => rnumber_9 cb nc nk size fr ok bsl n ov ot lv cv lt ct l sl B w hc hs hB)
 ·exact rterm_node 10 n v ts ih (fun _ ov ot lv cv lt ct w h => rcounts_10 n ov ot lv cv lt ct w h) (fun _ cb nc nk size fr ok bsl ov ot lv cv lt ct l sl B w hc hs hB => rnumber_10 cb nc nk size fr ok bsl n ov ot lv cv lt ct l sl B w hc hs hB)
 ·exact rterm_node 11 n v ts ih (fun _ ov ot lv cv lt ct w h => rcounts_11 n ov ot lv cv lt ct w h) (fun _ cb nc nk size fr ok bsl ov ot lv cv lt ct l sl B w hc hs hB => rnumber_11 cb nc nk size fr ok bsl n ov ot lv cv lt ct l sl B w hc hs hB)
 ·exact rterm_node 12 n v ts ih (fun _ ov ot lv cv lt ct w h => rcounts_12 n ov ot lv cv lt ct w h) (fun _ cb nc nk size fr ok bsl ov ot lv cv lt ct l sl B w hc hs hB => rnumber_12 cb nc nk size fr ok bsl n ov ot lv cv lt ct l sl B w hc hs hB)
 ·exact rterm_node 13 n v ts ih (fun _ ov ot lv cv lt ct w h => rcounts_13 n ov ot lv cv lt ct w h) (fun _ cb nc nk size fr ok bsl ov ot lv cv lt ct l sl B w hc hs hB => rnumber_13 cb nc nk size fr ok bsl n ov ot lv cv lt ct l sl B w hc hs hB)
 ·exact rterm_node 15 n v ts ih (fun _ ov ot lv cv lt ct w h => rcounts_15 n ov ot lv cv lt ct w h) (fun _ cb nc nk size fr ok bsl ov ot lv cv lt ct l sl B w hc hs hB => rnumber_15 cb nc nk size fr ok bsl n ov ot lv cv lt ct l sl B w hc hs hB)
 ·exact rterm_node 16 n v ts ih (fun _ ov ot lv cv lt ct w h => rcounts_16 n ov ot lv cv lt ct w h) (fun _ cb nc nk size fr ok bsl ov ot lv cv lt ct l sl B w hc hs hB => rnumber_16 cb nc nk size fr ok bsl n ov ot lv cv lt ct l sl B w hc hs hB)
 ·exact rterm_node 17 n v ts ih (fun _ ov ot lv cv lt ct w h => rcounts_17 n ov ot lv cv lt ct w h) (fun _ cb nc nk size fr ok bsl ov ot lv cv lt ct l sl B w hc hs hB => rnumber_17 cb nc nk size fr ok bsl n ov ot lv cv lt ct l sl B w hc hs hB)
 ·exact rterm_node 18 n v ts ih (fun _ ov ot lv cv lt ct w h => rcounts_18 n ov ot lv cv lt ct w h) (fun _ cb nc nk size fr ok bsl ov ot lv cv lt ct l sl B w hc hs hB => rnumber_18 cb nc nk size fr ok bsl n ov ot lv cv lt ct l sl B w hc hs hB)
 ·exact rterm_node 19 n v ts ih (fun _ ov ot lv cv lt ct w h => rcounts_19 n ov ot lv cv lt ct w h) (fun _ cb nc nk size fr ok bsl ov ot lv cv lt ct l sl B w hc hs hB => rnumber_19 cb nc nk size fr ok bsl n ov ot lv cv lt ct l sl B w hc hs hB)
 ·exact rterm_node 20 n v ts ih (fun _ ov ot lv cv lt ct w h => rcounts_20 n ov ot lv cv lt ct w h) (fun _ cb nc nk size fr ok bsl ov ot lv cv lt ct l sl B w hc hs hB => rnumber_20 cb nc nk size fr ok bsl n ov ot lv cv lt ct l sl B w hc hs hB)
 ·exact rterm_node 21 n v ts ih (fun _ ov ot lv cv lt ct w h => rcounts_21 n ov ot lv cv lt ct w h) (fun _ cb nc nk size fr ok bsl ov ot lv cv lt ct l sl B w hc hs hB => rnumber_21 cb nc nk size fr ok bsl n ov ot lv cv lt ct l sl B w hc hs hB)
 ·exact rterm_node 22 n v ts ih (fun _ ov ot lv cv lt ct w h => rcounts_22 n ov ot lv cv lt ct w h) (fun _ cb nc nk size fr ok bsl ov ot lv cv lt ct l sl B w hc hs hB => rnumber_22 cb nc nk size fr ok bsl n ov ot lv cv lt ct l sl B w hc hs hB)
end
end Go.Proofs.YtigkhmppnnljiaaGreatDoor

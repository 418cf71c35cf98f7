/-
  What the proofs lean on: Spells, Lives, ChkE, MkShape, LawsL.
-/
import Derived.ArgAppend
import Derived.WalkMore
import Derived.Maps.OwnSet
import Derived.WideKeyEntry
import Derived.Deep.Cut
import Derived.Deep.CutRange
import Derived.Deep.DeepCutAuto
import Derived.Deep.LoopGhost
import Derived.Deep.QuietTactic
import Derived.BigQuiet
import Derived.Test.YtigkhmppnnljiaaGreatDoorPreA05
import Derived.Test.YtigkhmppnnljiaaGreatDoorPreA09
import Derived.Test.YtigkhmppnnljiaaGreatDoorPreA12
import Derived.Test.YtigkhmppnnljiaaGreatDoorPreA13
import Derived.Test.YtigkhmppnnljiaaGreatDoorPreA18
import Derived.Test.YtigkhmppnnljiaaGreatDoorPreA19
import Derived.Test.YtigkhmppnnljiaaGreatDoorPreA23
set_option maxRecDepth 100000
set_option maxHeartbeats 16000000
namespace Go.Proofs.YtigkhmppnnljiaaGreatDoor
section
open Go.RowKit
end
section
open Go.RowKit
section
variable {P : Program} {ops : Array Oper} {Q : Exit → Act → World → Prop} {o : Oper} {a : Act} {w w' : World}
theorem wpList_field {s t f : Nat} {x v : Value} (hg : o.guard = none) (ho : o.op = .fieldAddr t (.tmp s) f) (hx : a.tmps.getD s undef = x) (hm : (Instr.fieldAt t x f).run P w = .ok v w) (hQ : Q .normal (a.put o.dst v) w) : wpList P ops Q [o] a w := by
 refine wpList_value (v := v) (w' := w) hg ?_ hQ
 unfold execOp
 rw [ho]
 show (do let r ← Instr.fieldAt t (a.tmps.getD s undef) f; pure (Next.value r) : Sem Next).run P w = _
 rw [hx]
 simp only [Sem.run_bind, Sem.run_pure, hm, Result.andThen_ok]
theorem wpList_load {s t : Nat} {x v : Value} (hg : o.guard = none) (ho : o.op = .load t (.tmp s)) (hx : a.tmps.getD s undef = x) (hm : (Instr.loadAt t x).run P w = .ok v w) (hQ : Q .normal (a.put o.dst v) w) : wpList P ops Q [o] a w := by
 refine wpList_value (v := v) (w' := w) hg ?_ hQ
 unfold execOp
 rw [ho]
 show (do let r ← Instr.loadAt t (a.tmps.getD s undef); pure (Next.value r) : Sem Next).run P w = _
 rw [hx]
 simp only [Sem.run_bind, Sem.run_pure, hm, Result.andThen_ok]
theorem wpList_build4 {t s1 s2 s3 s4 i1 i2 i3 i4 : Nat} {x1 x2 x3 x4 v : Value} (hg : o.guard = none) (ho : o.op = .build t #[(i1, .tmp s1), (i2, .tmp s2), (i3, .tmp s3), (i4, .tmp s4)]) (h1 : a.tmps.getD s1 undef = x1) (h2 : a.tmps.getD s2 undef = x2) (h3 : a.tmps.getD s3 undef = x3) (h4 : a.tmps.getD s4 undef = x4) (hm : (Instr.build t #[(i1, x1), (i2, x2), (i3, x3), (i4, x4)]).run P w = .ok v w) (hQ : Q .normal (a.put o.dst v) w) : wpList P ops Q [o] a w := by
 refine wpList_value (v := v) (w' := w) hg ?_ hQ
 unfold execOp
 rw [ho]
 have hmap : (#[(i1, Operand.tmp s1), (i2, Operand.tmp s2), (i3, Operand.tmp s3), (i4, Operand.tmp s4)] : Array (Nat × Operand)).map (fun (i, x) => (i, a.eval x)) = #[(i1, x1), (i2, x2), (i3, x3), (i4, x4)] := by
  simp only [List.map_toArray, List.map_cons, List.map_nil]
  rw [← h1, ← h2, ← h3, ← h4]; rfl
 show (do let r ← Instr.build t ((#[(i1, Operand.tmp s1), (i2, Operand.tmp s2), (i3, Operand.tmp s3), (i4, Operand.tmp s4)] : Array (Nat × Operand)).map (fun (i, x) => (i, a.eval x))); pure (Next.value r) : Sem Next).run P w = _
 rw [hmap]
 simp only [Sem.run_bind, Sem.run_pure, hm, Result.andThen_ok]
theorem fold_puts (f : Nat → Value) : ∀ (ds : List Nat) (b : Act), (ds.foldl (fun b d => b.put (some d) (f d)) b).tmps.size = b.tmps.size ∧ (ds.foldl (fun b d => b.put (some d) (f d)) b).defers = b.defers ∧
  ∀ t, t < b.tmps.size → (ds.foldl (fun b d => b.put (some d) (f d)) b).tmps.getD t undef = if t ∈ ds then f t else b.tmps.getD t undef
 | [], b => ⟨rfl, rfl, fun t _ => by simp⟩
 | d :: ds, b => by
  obtain ⟨h1, h2, h3⟩ := fold_puts f ds (b.put (some d) (f d))
  have hs : (b.put (some d) (f d)).tmps.size = b.tmps.size := by simp [Act.put]
  refine ⟨h1.trans hs, h2.trans rfl, fun t ht => ?_⟩
  rw [List.foldl_cons, h3 t (by rw [hs]; exact ht)]
  by_cases hm : t ∈ ds
  ·simp [hm]
  ·rw [if_neg hm]
   by_cases hd : d = t
   ·subst hd
    rw [put_getD ht, if_pos rfl]
    simp
   ·have : ¬ t ∈ d :: ds := by simp [hm]; exact fun h => hd h.symm
    rw [if_neg this]
    show ((b.tmps.setIfInBounds d (f d)).getD t undef) = _
    simp [Array.getElem?_setIfInBounds_ne hd]
def dstB (ops : Array Oper) (n : Nat) (ds : List Nat) : Bool := (List.range n).all fun i => match ops[i]? with | some o => (match o.dst with | some d => ds.contains d | none => true) | none => true
theorem Rest.spell {n : Nat} {a0 a : Act} (h : Rest ops n a0 a) (hsz : a.tmps.size = a0.tmps.size) (hd : a.defers = a0.defers) (ds : List Nat) (hB : dstB ops n ds = true) : a = ds.foldl (fun b d => b.put (some d) (a.tmps.getD d undef)) a0 := by
 obtain ⟨h1, h2, h3⟩ := fold_puts (fun d => a.tmps.getD d undef) ds a0
 obtain ⟨b, hb⟩ : ∃ b, ds.foldl (fun b d => b.put (some d) (a.tmps.getD d undef)) a0 = b := ⟨_, rfl⟩
 rw [hb] at h1 h2 h3 ⊢
 have ht : a.tmps = b.tmps := by
  apply Array.ext
  ·rw [hsz, h1]
  ·intro i g1 g2
   have g3 := h3 i (by rw [← h1]; exact g2)
   have e1 : b.tmps.getD i undef = b.tmps[i] := by simp [g2]
   have e2 : a.tmps.getD i undef = a.tmps[i] := by simp [g1]
   rw [e1] at g3
   by_cases hm : i ∈ ds
   ·rw [if_pos hm, e2] at g3; exact g3.symm
   ·rw [if_neg hm] at g3
    rw [g3, ← e2]
    refine h i fun j oj hj hoj he => hm ?_
    have := List.all_eq_true.1 hB j (List.mem_range.2 hj)
    simp only [hoj, he] at this
    simpa using this
 obtain ⟨ta, da⟩ := a
 obtain ⟨tb, db⟩ := b
 simp only at ht hd h2
 rw [ht, hd, h2]
end
theorem cell_qd {W V : World} {a : Addr} {v : Value} (h : V = W.drew) (hc : W.cell? a = some v) : V.cell? a = some v := by rw [h]; exact hc
def RowB (H : Nat) (t : TypeId) (size n : Nat) (xs : List Value) (v : Value) (W : World) : Prop := ∃ g cap L, v = .slice (some ⟨g, 0, none⟩) n cap ∧ H ≤ g ∧ BoxL W g t L ∧ L.take (n * size) = xs ∧ n ≤ cap ∧ cap ≤ maxLen ∧ L.length = cap * size
theorem RowB.of_own {W : World} {H n size : Nat} {t : TypeId} {v : Value} {xs : List Value} (h : W.ownsRow H t size v n xs) (hn : 0 < n) : RowB H t size n xs v W := by
 rcases h.2 with ⟨_, h0⟩ | ⟨g, cap, cur, hv, hg, hb, h1, h2, h3, h4⟩
 ·omega
 ·exact ⟨g, cap, cur.toList, hv, hg, by rw [BoxL]; simpa using hb, h4, h1, h2, by simpa using h3⟩
theorem RowB.own {W : World} {H n size : Nat} {t : TypeId} {v : Value} {xs : List Value} (h : RowB H t size n xs v W) : W.ownsRow H t size v n xs := by
 obtain ⟨g, cap, L, hv, hg, hb, h1, h2, h3, h4⟩ := h
 refine ⟨?_, .inr ⟨g, cap, L.toArray, hv, hg, hb, h2, h3, by simpa using h4, by simpa using h1⟩⟩
 rw [← h1, List.length_take, h4]
 exact Nat.min_eq_left (Nat.mul_le_mul_right _ h2)
theorem BoxL.ne {W : World} {b c : Nat} {t u : TypeId} {xs ys : List Value} (h : BoxL W b t xs) (h' : BoxL W c u ys) (hne : t ≠ u) : b ≠ c := by
 rintro rfl
 have := (show W.heap[b]? = _ from h).symm.trans h'
 simp at this
 exact hne this.2
end
section
namespace Live
open Unt Peep
theorem fits_facts {x : Ins} {regs nc np nk : Int} (hr : 0 ≤ regs) (h : fits x regs nc np nk = true) : (0 ≤ x.op ∧ x.op ≤ 22) ∧ (∀ r ∈ named x, 0 ≤ r ∧ r < regs) ∧ (-1 ≤ gives x ∧ gives x < regs) ∧ (x.op = 15 → 0 ≤ x.a ∧ x.a < nc) ∧ (x.op = 16 → 0 ≤ x.b ∧ x.b < nc) := by
 rw [← ins_fits x regs nc np nk hr] at h
 simp only [ins, isOp, Bool.and_eq_true, decide_eq_true_eq, Bool.not_eq_true', Bool.or_eq_false_iff, decide_eq_false_iff_not] at h
 obtain ⟨h0, _, h2, h3, h4⟩ := h
 refine ⟨h0, fun r hr => ?_, by omega, fun h15 => ?_, fun h16 => ?_⟩
 ·have := List.all_eq_true.1 h2 r hr
  simpa [below] using this
 ·simpa [tailOk, h15, below] using h4
 ·simpa [tailOk, h16, below] using h4
theorem closed_of {code : List Ins} {regs np nk : Int} (hr : 0 ≤ regs) (h0 : 0 < code.length) (hl : lastB (lastOp code) = true) (hf : ∀ x ∈ code, fits x regs code.length np nk = true) : Closed code := by
 refine ⟨h0, fun k x hx j hj => ?_⟩
 have hk := (List.getElem?_eq_some_iff.1 hx).1
 obtain ⟨_, _, _, h15, h16⟩ := fits_facts hr (hf x (List.mem_of_getElem? hx))
 simp only [succs, List.mem_append] at hj
 rcases hj with hj | hj
 ·split at hj
  ·rename_i hc
   obtain rfl : j = k + 1 := by simpa using hj
   refine Nat.lt_of_le_of_ne hk fun e => ?_
   have hlast : lastOp code = x.op := by
    rw [lastOp, List.getLast?_eq_getElem?, show code.length - 1 = k by omega, hx]
   rw [hlast] at hl
   simp only [lastB, Bool.or_eq_true, Bool.and_eq_true, decide_eq_true_eq] at hl
   omega
  ·simp at hj
 ·split at hj
  ·rename_i hc
   have := h15 hc
   obtain rfl : j = x.a.toNat := by simpa using hj
   omega
  ·split at hj
   ·rename_i hc
    have := h16 hc
    obtain rfl : j = x.b.toNat := by simpa using hj
    omega
   ·simp at hj
theorem procsB_at {nk np : Int} : ∀ {l : List Proc} {all : Int} {p : Proc}, procsB nk np l all = true → p ∈ l → headB p = true ∧ lastB (lastOp p.code) = true ∧ ∀ x ∈ p.code, fits x p.regs p.code.length np nk = true
 | [], _, _, _, h => by simp at h
 | q :: l, all, p, h, hp => by
  simp only [procsB, Bool.and_eq_true] at h
  rcases List.mem_cons.1 hp with rfl | hp
  ·exact ⟨h.1, h.2.2.1, List.all_eq_true.1 h.2.2.2.1⟩
  ·exact procsB_at h.2.2.2.2 hp
def Short (u : Unt) : Prop := ∀ p ∈ u.procs, p.code.length ≤ 1000 ∧ ∀ x ∈ p.code, x.l.length ≤ 1000
theorem fewP_at {n rg : Int} : ∀ {l : List Proc} {k : Int} {p : Proc}, Unt.fewP n rg l k = true → p ∈ l → (p.code.length : Int) ≤ n ∧ p.regs ≤ rg ∧ ∀ x ∈ p.code, x.l.length ≤ 60
 | [], _, _, _, h => by simp at h
 | q :: l, k, p, h, hp => by
  simp only [Unt.fewP, Bool.and_eq_true, Bool.not_eq_true', decide_eq_false_iff_not] at h
  rcases List.mem_cons.1 hp with rfl | hp
  ·refine ⟨by omega, by omega, fun x hx => ?_⟩
   simpa using List.all_eq_true.1 h.2.2.1 x hx
  ·exact fewP_at h.2.2.2.2 hp
theorem short_of_few {u : Unt} {n rg : Int} (h : Unt.fewB u n rg = true) (hn : n ≤ 1000) : Short u := by
 simp only [Unt.fewB, Bool.and_eq_true] at h
 intro p hp
 obtain ⟨h1, _, h3⟩ := fewP_at h.2.2 hp
 exact ⟨by omega, fun x hx => Nat.le_trans (h3 x hx) (by omega)⟩
end Live
end
section
open Go.RowKit
end
section
open Go.RowKit
end
section
open Go.RowKit
end
section
open Go Go.RowKit
theorem allL_append : ∀ (a b : List Trm), Trm.allL (a ++ b) = Trm.allL a + Trm.allL b
 | [], b => by simp [Trm.allL]
 | x :: a, b => by rw [List.cons_append, Trm.allL, allL_append a b, Trm.allL]; omega
theorem allL_snoc {l : List Trm} {j : Nat} {x : Trm} (h : l[j]? = some x) : Trm.allL (l.take (j + 1)) = Trm.allL (l.take j) + x.all := by
 rw [List.take_add_one, h, allL_append]; simp [Trm.allL]
theorem allLT_take (l : List Trm) (j : Nat) : Trm.allL (l.take j) ≤ Trm.allL l := by
 conv => rhs; rw [← List.take_append_drop j l, allL_append]
 omega
theorem newB_more {a b : List Int} (h : Trm.newB (fun _ => false) (a ++ b) = true) : Trm.newB (fun _ => false) a = true := by
 rw [Trm.newB_append, Bool.and_eq_true] at h; exact h.1
theorem wfL_split {nc nk : Int} {fr : Bool} {op : Int} (ho : op ≠ 9) {v : List Int} : ∀ (t : List Trm) (sc : Int → Bool), Trm.wfL nc nk fr op v t sc = (((t.take (t.length - 1)).all fun x => Trm.wf nc nk fr x sc) && ((t.drop (t.length - 1)).all fun x => Trm.wf nc nk fr x (Trm.addV sc v)))
 | [], sc => by simp [Trm.wfL]
 | [x], sc => by simp [Trm.wfL]
 | x :: y :: l, sc => by
  rw [Trm.wfL, if_neg ho, wfL_split ho (y :: l) sc]
  simp [Bool.and_assoc]
theorem wfL_fix {nc nk : Int} {fr : Bool} {v : List Int} : ∀ (t : List Trm) (sc : Int → Bool), Trm.wfL nc nk fr 9 v t sc = ((t.all fun x => Trm.wf nc nk fr x (Trm.addV sc v)) && ((t.take (t.length - 1)).all fun x => x.op == 19))
 | [], sc => by simp [Trm.wfL]
 | [x], sc => by simp [Trm.wfL]
 | x :: y :: l, sc => by
  rw [Trm.wfL, if_pos rfl, wfL_fix (y :: l) sc, Bool.eq_iff_iff]
  simp [and_assoc, and_left_comm]
end
section
namespace Mdl
open Unt (named gives)
def argsG (c : Cod) (r : Int) : Prop := 0 ≤ r ∧ r < c.v.length
theorem proc_piece {c : Cod} {nc nk : Int} {fr : Bool} (hw : Trm.wf nc nk fr c.body (Trm.addV (fun _ => false) c.v) = true) (hn : (c.v ++ c.body.bnd).Nodup) : Mk.FragE (argsG c) 0 (Mk.proc Mk.lkL c).code ∧ (c.v.length : Int) ≤ (Mk.proc Mk.lkL c).regs ∧ (Mk.proc Mk.lkL c).args = c.v.length ∧ (Mk.proc Mk.lkL c).rest = c.rest ∧ (Mk.proc Mk.lkL c).alive = [] := by
 obtain ⟨seg, h1, h2, h3⟩ := Mk.lays_into c.body.all c.body (Nat.le_refl _) nc nk fr (Trm.addV (fun _ => false) c.v) 0 true ⟨[], c.v.length, c.v.zip ((List.range c.v.length).map fun (i : Nat) => (i : Int))⟩ (argsG c) hw
  (fun v hv => by
   have hm : v ∈ c.v := by simpa [Trm.addV] using hv
   have h := Mk.lkL_in c.v ((List.range c.v.length).map fun (i : Nat) => (i : Int)) [] v hm (by simp)
   rw [List.nil_append] at h
   simp only [List.mem_map, List.mem_range] at h
   obtain ⟨i, hi, e⟩ := h
   rw [← e]
   exact ⟨⟨by omega, by omega⟩, by simp, by dsimp only; omega⟩)
  (fun v hv hb => (List.nodup_append.1 hn).2.2 v (by simpa [Trm.addV] using hv) v hb rfl) (List.nodup_append.1 hn).2.1 (fun h => by cases h)
 have hc : (Mk.proc Mk.lkL c).code = seg := by
  show (Mk.into Mk.lkL c.body 0 true _).code = seg
  rw [h1.code]; rfl
 rw [hc]
 exact ⟨h3, h1.regs, rfl, rfl, rfl⟩
theorem unit_procs {m : Mdl} (h : m.okB = true) : ∀ p ∈ (m.unit Mk.lkL).procs, ∃ c : Cod, p = Mk.proc Mk.lkL c ∧ Mk.FragE (argsG c) 0 p.code ∧ (c.v.length : Int) ≤ p.regs ∧ p.args = c.v.length ∧ p.rest = c.rest ∧ p.alive = [] := by
 rw [okB] at h
 simp only [Bool.and_eq_true] at h
 obtain ⟨_, ⟨h1, h2⟩, h3⟩ := h
 intro p hp
 rcases List.mem_append.1 hp with hp | hp
 ·obtain ⟨c, hc, rfl⟩ := List.mem_map.1 hp
  have he := codes_each h3 c hc
  exact ⟨c, rfl, proc_piece he.1 he.2.1⟩
 ·rw [List.mem_singleton.1 hp]
  exact ⟨_, rfl, proc_piece (c := ⟨[], false, m.body⟩) (by rw [Trm.addV_nil]; exact h1) (by simpa using ((Trm.newB_iff _ _).1 h2).2)⟩
end Mdl
end
section
open Go.RowKit
theorem take_snoc_eq {l l' : List Int} {j : Nat} {x : Int} (h : l[j]? = some x) (h' : l'[j]? = some x) (ht : l.take j = l'.take j) : l.take (j + 1) = l'.take (j + 1) := by
 rw [List.take_add_one, List.take_add_one, h, h', ht]
theorem ints06_any (l l' : List Int) (sl sl' : Value) (B : Nat) (w : World) (hv : SlC w B 1 IntR l sl) (hv' : SlC w B 1 IntR l' sl') (r : Bool) (hr : decide (l = l') = r) :
  Calls Tryz.prog 48 #[sl, sl'] w fun e w' => e = .returned (.bool r) ∧ ∃ nd, w' = w.drewN nd := by
 obtain ⟨o, n, c, rfl⟩ := hv.form
 obtain ⟨o', n', c', rfl⟩ := hv'.form
 obtain ⟨hn, hc, hm⟩ := hv.lens
 obtain ⟨hn', hc', hm'⟩ := hv'.lens
 have HV := Lib.hid hv
 have HV' := Lib.hid hv'
 have HN := Lib.hid hn
 have HN' := Lib.hid hn'
 have HR := Lib.hid hr
 by_cases hne : n = n'
 ·clear hv hv' hr hn hn'
  subst hne
  have d0 : ((n : Int) != (n : Int)) = false := by simp
  go_enter Tryz.func48, Tryz.ntmps48
  go_wp2_with fail
  go_loopg [5] n (fun g i wr => ∃ j : Nat, g = n - j ∧ j ≤ n ∧ i = .int .i64 j ∧ Hid (l.take j = l'.take j) ∧ ∃ nd, wr = w.drewN nd)
  case atStart => exact ⟨0, rfl, by omega, rfl, rfl, 0, rfl⟩
  case round =>
   obtain ⟨j, rfl, hj, rfl, HT, nd, rfl⟩ := hrel
   by_cases hjl : j < n
   ·obtain ⟨x, hx⟩ : ∃ x, l[j]? = some x := ⟨_, List.getElem?_eq_getElem (by rw [← HN.out]; exact hjl)⟩
    obtain ⟨y, hy⟩ : ∃ y, l'[j]? = some y := ⟨_, List.getElem?_eq_getElem (by rw [← HN'.out]; exact hjl)⟩
    obtain ⟨b1, off1, cs, ho1, _, _, hcell, hR⟩ := HV.out.at (Below.refl _ _) hx
    obtain ⟨b2, off2, ds, ho2, _, _, hdell, hR'⟩ := HV'.out.at (Below.refl _ _) hy
    subst ho1 ho2
    obtain ⟨rfl, _⟩ := hR
    obtain ⟨rfl, _⟩ := hR'
    have e0 := hcell 0 _ rfl
    have f0 := hdell 0 _ rfl
    rw [Nat.mul_one, Nat.add_zero] at e0 f0
    have HX := Lib.hid hx
    have HY := Lib.hid hy
    clear hx hy hcell hdell
    by_cases hxy : x = y
    ·subst hxy
     have g0 : ((x : Int) != x) = false := by simp
     have HT2 := Lib.hid (take_snoc_eq HX.out HY.out HT.out)
     go_wp2_with fail
     go_quiet (fail)
     go_wp2_with fail
     go_roundg (n - (j + 1))
     case measure => omega
     case rel => exact ⟨j + 1, rfl, by omega, by go_num, HT2, _, rfl⟩
    ·have g0 : (x != y) = true := by simpa using hxy
     obtain rfl : r = false := by
      rw [← HR.out]
      refine decide_eq_false fun e => hxy ?_
      have h1 := HX.out
      rw [e, HY.out] at h1
      exact (Option.some.inj h1).symm
     go_wp2_with fail
     go_quiet (fail)
     go_wp2_with fail
     go_ret
     exact ⟨rfl, nd + nq, World.drewN_drewN _ _ _⟩
   ·obtain rfl : j = n := by omega
    obtain rfl : r = true := by
     rw [← HR.out]
     refine decide_eq_true ?_
     have h1 := HT.out
     rwa [List.take_of_length_le (by rw [← HN.out]; exact Nat.le_refl _), List.take_of_length_le (by rw [← HN'.out]; exact Nat.le_refl _)] at h1
    go_wp2_with fail
    go_ret
    exact ⟨rfl, _, rfl⟩
 ·obtain rfl : r = false := by
   rw [← hr]
   exact decide_eq_false fun e => hne (by rw [hn, hn', e])
  have d0 : ((n : Int) != (n' : Int)) = true := by simpa using fun e => hne (by omega)
  clear hv hv' hr hn hn'
  go_enter Tryz.func48, Tryz.ntmps48
  go_wp2_with fail
  go_ret
  exact ⟨rfl, 0, rfl⟩
theorem sameIns_self (x : Ins) (c0 c1 c2 c3 c4 d0 d1 d2 d3 d4 : Value) (B : Nat) (w : World) (hx : InsR w B x [c0, c1, c2, c3, c4]) (hy : InsR w B x [d0, d1, d2, d3, d4]) (hB : B ≤ w.heap.size) :
  Calls Tryz.prog 78 #[.agg #[c0, c1, c2, c3, c4], .agg #[d0, d1, d2, d3, d4]] w fun e w' => e = .returned (.bool true) ∧ Below w.heap.size w w' := by
 obtain ⟨k, d, a, b, l⟩ := x
 obtain ⟨sl, he, _, _, _, _, hl⟩ := hx
 obtain ⟨sl', he', _, _, _, _, hl'⟩ := hy
 simp only [List.cons.injEq, and_true] at he he'
 obtain ⟨rfl, rfl, rfl, rfl, rfl⟩ := he
 obtain ⟨rfl, rfl, rfl, rfl, rfl⟩ := he'
 obtain ⟨o, n, c, rfl⟩ := hl.form
 obtain ⟨o', n', c', rfl⟩ := hl'.form
 have HC := Lib.hid (fun X Y => ints06_any l l _ _ B ((w.alloc X).alloc Y) (hl.kept (((Below.one w X).trans ((Below.one _ Y).mono (by simp))).mono hB) fun _ _ _ h => h) (hl'.kept (((Below.one w X).trans ((Below.one _ Y).mono (by simp))).mono hB) fun _ _ _ h => h) true (by simp))
 clear hl hl'
 go_enter Tryz.func78, Tryz.ntmps78
 go_wp2_with fail
 refine (HC.out _ _).mono ?_
 rintro e w1 ⟨rfl, nd, rfl⟩
 go_wp2_with fail
 go_ret
 exact ⟨rfl, ⟨rfl, rfl, rfl, by simp [World.drewN]; omega, fun b hb => ((Below.one w _).trans ((Below.one _ _).mono (by simp))).block b hb⟩⟩
end
section
open Go.RowKit
end
section
open Go.RowKit
theorem slC_of_box {α : Type} {w : World} {B b size n : Nat} {te : TypeId} {R : α → List Value → Prop} {l : List α} {cs : List Value} (hb : BoxL w b te cs) (hB : b < B) (hc : CellsG size R l cs) (hn : n = l.length) (hm : n ≤ 1000000) : SlC w B size R l (.slice (some ⟨b, 0, none⟩) n n) := by
 refine ⟨_, n, n, rfl, hn, Nat.le_refl _, by omega, fun _ => ⟨rfl, hB⟩, fun i x hx => ?_⟩
 obtain ⟨cs', h1, h2, h3⟩ := hc.at hx
 exact ⟨cs', h1, fun j u hj => by have := h3 j u hj; simpa using hb.cell _ this, h2⟩
theorem ints_nil (w : World) (B : Nat) : SlC w B 1 IntR [] (.slice none 0 0) := ⟨none, 0, 0, rfl, rfl, by omega, by omega, rfl, rfl⟩
namespace Live
end Live
end
section
open Go.RowKit
namespace Live
open Unt Peep
end Live
end
end Go.Proofs.YtigkhmppnnljiaaGreatDoor

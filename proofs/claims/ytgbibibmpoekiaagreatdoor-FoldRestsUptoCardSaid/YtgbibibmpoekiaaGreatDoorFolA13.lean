/-
  What the proofs lean on: Fd3, Fd1, MapV, RegF.
-/
import Derived.Maps.OwnSet
import Derived.WideKeyEntry
import Derived.Test.YtgbibibmpoekiaaGreatDoorFolA10
import Derived.Test.YtgbibibmpoekiaaGreatDoorFolA11
set_option maxRecDepth 100000
set_option maxHeartbeats 16000000
namespace Go.Proofs.YtgbibibmpoekiaaGreatDoor
section
open Go Go.RowKit
namespace Fd
open Trm
mutual
def lone : Trm → Bool
 | mk op _ _ t => (op == 6 && t.length == 1) || loneL t
def loneL : List Trm → Bool
 | [] => false
 | x :: l => lone x || loneL l
end
theorem loneL_iff {l : List Trm} : loneL l = false ↔ ∀ y ∈ l, lone y = false := by
 induction l with
 | nil => simp [loneL]
 | cons x l ih => simp [loneL, ih]
theorem lone_parts {x : Trm} (h : lone x = false) : ∀ y ∈ x.t, lone y = false := by
 obtain ⟨o, n, v, t⟩ := x
 simp only [lone, Bool.or_eq_false_iff] at h
 exact loneL_iff.1 h.2
theorem lone_mk {o n : Int} {v : List Int} {t : List Trm} (h : o = 6 → t.length ≠ 1) (ht : loneL t = false) : lone (mk o n v t) = false := by
 simp only [lone, ht, Bool.or_false]
 by_cases ho : o = 6
 ·have := h ho
  simp [this]
 ·simp [ho]
theorem loneL_app {l m : List Trm} : loneL (l ++ m) = (loneL l || loneL m) := by
 induction l with
 | nil => simp [loneL]
 | cons x l ih => rw [List.cons_append, loneL, loneL, ih, Bool.or_assoc]
theorem putL_len (b : List (Int × Trm)) : ∀ l : List Trm, (putL b l).length = l.length
 | [] => rfl
 | x :: l => by rw [putL, List.length_cons, List.length_cons, putL_len b l]
theorem putL_mem {b : List (Int × Trm)} {y : Trm} : ∀ {l : List Trm}, y ∈ putL b l → ∃ z ∈ l, y = put b z
 | [], h => by simp [putL] at h
 | x :: l, h => by
  rw [putL] at h
  rcases List.mem_cons.1 h with rfl | h
  ·exact ⟨x, by simp, rfl⟩
  ·obtain ⟨z, hz, e⟩ := putL_mem h
   exact ⟨z, List.mem_cons_of_mem _ hz, e⟩
theorem look_mem {b : List (Int × Trm)} {n : Int} {x : Trm} (hx : b.lookup n = some x) : ∃ k, (k, x) ∈ b := by
 induction b with
 | nil => cases hx
 | cons p b ih =>
  rw [List.lookup_cons] at hx
  split at hx
  ·cases hx; exact ⟨p.1, by simp⟩
  ·obtain ⟨k, hk⟩ := ih hx
   exact ⟨k, List.mem_cons_of_mem _ hk⟩
theorem put_lone {b : List (Int × Trm)} (hb : ∀ p ∈ b, lone p.2 = false) : ∀ x : Trm, lone x = false → lone (put b x) = false := by
 intro x
 induction x using Trm.ind with
 | h o n v t ih =>
  intro hx
  have hp := lone_parts hx
  simp only [lone, Bool.or_eq_false_iff] at hx
  have hsame : lone (mk o n v (putL b t)) = false := by
   refine lone_mk (fun ho => ?_) (loneL_iff.2 fun y hy => ?_)
   ·rw [putL_len]
    have := hx.1
    rw [ho] at this
    simpa using this
   ·obtain ⟨z, hz, rfl⟩ := putL_mem hy
    exact ih z hz (hp z hz)
  unfold put
  split
  ·split
   ·rename_i x hx'
    obtain ⟨k, hk⟩ := look_mem hx'
    exact hb _ hk
   ·exact hsame
  ·exact hsame
theorem prim_lone (F : Int → List Dat → Option Dat) (n : Int) (l : List Trm) (cs : List Dat) (h : loneL l = false) : lone (prim F n l cs).1 = false := by
 have hm : lone (mk 10 n [] l) = false := lone_mk (fun e => absurd e (by decide)) h
 unfold prim
 split
 ·exact hm
 ·split
  ·exact hm
  ·rfl
theorem flat_lone : ∀ l : List Trm, loneL l = false → loneL (flat l) = false
 | [], _ => rfl
 | x :: l, h => by
  simp only [loneL, Bool.or_eq_false_iff] at h
  have h2 := flat_lone l h.2
  unfold flat
  split
  ·rw [loneL_app, loneL_iff.2 (lone_parts h.1), h2]; rfl
  ·rw [loneL, h.1, h2]; rfl
theorem seq_lone (l : List Trm) (h : loneL l = false) : lone (seq l) = false := by
 have h2 := loneL_iff.1 (flat_lone l h)
 unfold seq
 split
 ·rename_i x _ hx
  obtain ⟨ys, hy⟩ := List.getLast?_eq_some_iff.1 hx
  exact h2 x (by rw [hy]; simp)
 ·rename_i r x hx hr
  obtain ⟨ys, hy⟩ := List.getLast?_eq_some_iff.1 hx
  refine lone_mk (fun _ => ?_) (loneL_iff.2 fun y hm => h2 y ?_)
  ·rw [List.length_append, List.length_singleton]
   have : ((flat l).dropLast.filter fun x => !idle x).length ≠ 0 := fun hz => hr (List.length_eq_zero_iff.1 hz)
   omega
  ·rcases List.mem_append.1 hm with hm | hm
   ·exact List.dropLast_subset _ (List.mem_filter.1 hm).1
   ·rw [List.mem_singleton.1 hm, hy]; simp
 ·rfl
theorem lets_lone (last : Trm) : ∀ (vs : List Int) (l : List Trm), loneL l = false → (∀ p ∈ (lets last vs l).1, lone p.2 = false) ∧ loneL (lets last vs l).2.2 = false
 | [], l, _ => by unfold lets; exact ⟨(fun p hp => by simp at hp), rfl⟩
 | v :: vs, [], _ => by unfold lets; exact ⟨(fun p hp => by simp at hp), rfl⟩
 | v :: vs, x :: l, h => by
  simp only [loneL, Bool.or_eq_false_iff] at h
  obtain ⟨h1, h3⟩ := lets_lone last vs l h.2
  unfold lets
  split
  ·refine ⟨fun p hp => ?_, h3⟩
   rcases List.mem_cons.1 hp with rfl | hp
   ·exact h.1
   ·exact h1 p hp
  ·split
   ·refine ⟨h1, ?_⟩
    show loneL (x :: (lets last vs l).2.2) = false
    rw [loneL, h.1, h3]; rfl
   ·exact ⟨h1, h3⟩
theorem letT_lone (vars : List Int) (l : List Trm) (h : loneL l = false) : lone (letT vars l) = false := by
 unfold letT
 split
 ·exact lone_mk (fun e => absurd e (by decide)) h
 ·rename_i last hlast
  obtain ⟨h1, h3⟩ := lets_lone last vars l h
  have p2 := put_lone (fun p hp => h1 p (List.mem_reverse.1 hp)) last (loneL_iff.1 h last (List.mem_of_getElem? hlast))
  show lone (if (lets last vars l).2.1.isEmpty = true then put (lets last vars l).1.reverse last else mk 8 0 (lets last vars l).2.1 ((lets last vars l).2.2 ++ [put (lets last vars l).1.reverse last])) = false
  split
  ·exact p2
  ·refine lone_mk (fun e => absurd e (by decide)) ?_
   rw [loneL_app, h3, loneL, p2]; rfl
theorem post_lone (F : Int → List Dat → Option Dat) (op n : Int) (v : List Int) (t : List Trm) (cs : List Dat) (h : loneL t = false) : lone (post F op n v t cs).1 = false := by
 have self0 : op ≠ 6 → lone (mk op n v t) = false := fun ho => lone_mk (fun e => absurd e ho) h
 have part : ∀ y ∈ t, lone y = false := loneL_iff.1 h
 unfold post
 split
 ·rename_i ho
  have self := self0 (by rw [ho]; decide)
  split
  ·exact self
  ·rename_i hd r
   have hr : loneL r = false := loneL_iff.2 fun y hy => part y (List.mem_cons_of_mem _ hy)
   split
   ·exact prim_lone F hd.n r cs hr
   ·split
    ·split
     ·rename_i b hb
      have hbn := lone_parts (part hd (by simp)) b (by rw [hb]; simp)
      exact letT_lone hd.v (r ++ [b]) (by rw [loneL_app, hr, loneL, hbn]; rfl)
     ·exact self
    ·exact self
 split
 ·rename_i ho
  have self := self0 (by rw [ho]; decide)
  split
  ·rename_i a b c
   split
   ·split
    ·split
     ·exact part c (by simp)
     ·exact part b (by simp)
    ·exact self
   ·split
    ·exact part b (by simp)
    ·exact self
  ·exact self
 split
 ·exact prim_lone F n t cs h
 split
 ·exact seq_lone t h
 rename_i h6
 have self := self0 h6
 split
 ·exact letT_lone v t h
 split
 ·split
  ·rename_i last hl
   split
   ·exact self
   ·exact part last (List.mem_of_getElem? hl)
  ·exact self
 split
 ·split
  ·rename_i a
   split
   ·exact part a (by simp)
   ·exact self
  ·exact self
 ·exact self
theorem term_lone (F : Int → List Dat → Option Dat) : ∀ (x : Trm) (cs : List Dat), lone (term F x cs).1 = false := by
 intro x
 induction x using Trm.ind with
 | h o n v t ih =>
  intro cs
  have key : ∀ (l : List Trm) (cs : List Dat), (∀ y ∈ l, ∀ cs, lone (term F y cs).1 = false) → loneL (termL F l cs).1 = false := fun l => by
   induction l with
   | nil => intro cs _; rfl
   | cons y l ihl =>
    intro cs hy
    rw [termL, loneL, hy y (by simp) cs, ihl (term F y cs).2 fun z hz => hy z (List.mem_cons_of_mem _ hz)]
    rfl
  rw [term]
  exact post_lone F o n v _ _ (key t cs ih)
theorem prim_more (F : Int → List Dat → Option Dat) (n : Int) (l : List Trm) (cs : List Dat) : cs <+: (prim F n l cs).2 := by
 unfold prim
 split
 ·exact List.prefix_rfl
 ·split
  ·exact List.prefix_rfl
  ·exact List.prefix_append _ _
theorem post_more (F : Int → List Dat → Option Dat) (op n : Int) (v : List Int) (t : List Trm) (cs : List Dat) : cs <+: (post F op n v t cs).2 := by
 unfold post
 repeat' split
 all_goals first | exact List.prefix_rfl | exact prim_more ..
theorem term_more (F : Int → List Dat → Option Dat) : ∀ (x : Trm) (cs : List Dat), cs <+: (term F x cs).2 := by
 intro x
 induction x using Trm.ind with
 | h o n v t ih =>
  intro cs
  have key : ∀ (l : List Trm) (cs : List Dat), (∀ y ∈ l, ∀ cs, cs <+: (term F y cs).2) → cs <+: (termL F l cs).2 := fun l => by
   induction l with
   | nil => intro cs _; exact List.prefix_rfl
   | cons y l ihl =>
    intro cs hy
    rw [termL]
    exact (hy y (by simp) cs).trans (ihl (term F y cs).2 fun z hz => hy z (List.mem_cons_of_mem _ hz))
  rw [term]
  exact (key t cs ih).trans (post_more F o n v _ _)
end Fd
end
section
open Go Go.RowKit
namespace Fd
open Trm
mutual
def neat : Trm → Bool
 | mk op _ _ t => (!(op == 0 || (op == 1 || (op == 11 || op == 13))) || t.isEmpty) && neatL t
def neatL : List Trm → Bool
 | [] => true
 | x :: l => neat x && neatL l
end
theorem neatL_iff {l : List Trm} : neatL l = true ↔ ∀ y ∈ l, neat y = true := by
 induction l with
 | nil => simp [neatL]
 | cons x l ih => simp [neatL, ih]
theorem neat_parts {x : Trm} (h : neat x = true) : ∀ y ∈ x.t, neat y = true := by
 obtain ⟨o, n, v, t⟩ := x
 simp only [neat, Bool.and_eq_true] at h
 exact neatL_iff.1 h.2
theorem light_leaf {x : Trm} (h : neat x = true) (hl : light x = true) : x.t = [] := by
 obtain ⟨o, n, v, t⟩ := x
 simp only [neat, Bool.and_eq_true] at h
 have h1 := h.1
 simp only [light, Trm.op] at hl
 show t = []
 rcases (by simpa using hl : o = 0 ∨ o = 11 ∨ o = 1) with rfl | rfl | rfl <;> simpa using h1
theorem all_leaf {x : Trm} (h : x.t = []) : x.all = 1 := by
 obtain ⟨o, n, v, t⟩ := x
 replace h : t = [] := h
 subst h
 rfl
theorem all_pos (x : Trm) : 1 ≤ x.all := by obtain ⟨o, n, v, t⟩ := x; rw [Trm.all]; omega
theorem allL_app (l m : List Trm) : allL (l ++ m) = allL l + allL m := by
 induction l with
 | nil => simp [allL]
 | cons x l ih => rw [List.cons_append, allL, allL, ih]; omega
def Subs (b : List (Int × Trm)) : Prop := ∀ p ∈ b, light p.2 = true ∧ neat p.2 = true
theorem Subs.look {b : List (Int × Trm)} (h : Subs b) {n : Int} {x : Trm} (hx : b.lookup n = some x) : light x = true ∧ neat x = true := by
 induction b with
 | nil => cases hx
 | cons p b ih =>
  rw [List.lookup_cons] at hx
  split at hx
  ·cases hx; exact h p (by simp)
  ·exact ih (fun q hq => h q (List.mem_cons_of_mem _ hq)) hx
theorem Subs.rev {b : List (Int × Trm)} (h : Subs b) : Subs b.reverse := fun p hp => h p (List.mem_reverse.1 hp)
theorem put_one {b : List (Int × Trm)} (h : Subs b) : ∀ x : Trm, neat x = true → (put b x).all = x.all ∧ neat (put b x) = true := by
 intro x
 induction x using Trm.ind with
 | h o n v t ih =>
  intro hx
  have hp := neat_parts hx
  have key : ∀ l : List Trm, (∀ y ∈ l, (put b y).all = y.all ∧ neat (put b y) = true) → allL (putL b l) = allL l ∧ neatL (putL b l) = true ∧ (putL b l).isEmpty = l.isEmpty := fun l => by
   induction l with
   | nil => intro _; exact ⟨rfl, rfl, rfl⟩
   | cons y l ihl =>
    intro hy
    obtain ⟨h1, h2, _⟩ := ihl fun z hz => hy z (List.mem_cons_of_mem _ hz)
    obtain ⟨h3, h4⟩ := hy y (by simp)
    exact ⟨by rw [putL, allL, allL, h1, h3], by rw [putL, neatL, h2, h4]; rfl, rfl⟩
  obtain ⟨k1, k2, k3⟩ := key t fun y hy => ih y hy (hp y hy)
  have hsame : (mk o n v (putL b t)).all = (mk o n v t).all ∧ neat (mk o n v (putL b t)) = true := by
   refine ⟨by rw [Trm.all, Trm.all, k1], ?_⟩
   simp only [neat, Bool.and_eq_true] at hx ⊢
   exact ⟨by rw [k3]; exact hx.1, k2⟩
  unfold put
  split
  ·rename_i ho
   split
   ·rename_i x hx'
    obtain ⟨g1, g2⟩ := h.look hx'
    refine ⟨?_, g2⟩
    rw [all_leaf (light_leaf g2 g1)]
    subst ho
    have : t = [] := light_leaf hx rfl
    subst this
    rfl
   ·exact hsame
  ·exact hsame
theorem neatL_app {l m : List Trm} : neatL (l ++ m) = (neatL l && neatL m) := by
 induction l with
 | nil => simp [neatL]
 | cons x l ih => rw [List.cons_append, neatL, neatL, ih, Bool.and_assoc]
theorem neat_mk {o n : Int} {v : List Int} {t : List Trm} (ho : o ≠ 0 ∧ o ≠ 1 ∧ o ≠ 11 ∧ o ≠ 13) (ht : neatL t = true) : neat (mk o n v t) = true := by
 simp only [neat, ht, Bool.and_true]
 simp [ho]
theorem prim_small (F : Int → List Dat → Option Dat) (n : Int) (l : List Trm) (cs : List Dat) (h : neatL l = true) : (prim F n l cs).1.all ≤ 1 + allL l ∧ neat (prim F n l cs).1 = true := by
 have hm : neat (mk 10 n [] l) = true := neat_mk (by decide) h
 have ha : (mk 10 n [] l).all ≤ 1 + allL l := by rw [Trm.all]; exact Nat.le_refl _
 unfold prim
 split
 ·exact ⟨ha, hm⟩
 ·split
  ·exact ⟨ha, hm⟩
  ·exact ⟨by rw [Trm.all, allL]; omega, rfl⟩
theorem flat_small : ∀ l : List Trm, neatL l = true → allL (flat l) ≤ allL l ∧ neatL (flat l) = true
 | [], _ => ⟨Nat.le_refl _, rfl⟩
 | x :: l, h => by
  simp only [neatL, Bool.and_eq_true] at h
  obtain ⟨h1, h2⟩ := flat_small l h.2
  unfold flat
  split
  ·obtain ⟨o, n, v, t⟩ := x
   have ht := neatL_iff.2 (neat_parts h.1)
   simp only [Trm.t] at ht ⊢
   rw [allL_app, neatL_app, allL, Trm.all, ht, h2]
   exact ⟨by omega, rfl⟩
  ·rw [allL, allL, neatL, h.1, h2]
   exact ⟨by omega, rfl⟩
theorem allL_filter (p : Trm → Bool) (l : List Trm) : allL (l.filter p) ≤ allL l := by
 induction l with
 | nil => exact Nat.le_refl _
 | cons x l ih =>
  rw [List.filter_cons]
  split
  ·rw [allL, allL]; omega
  ·rw [allL]; omega
theorem seq_small (l : List Trm) (h : neatL l = true) : (seq l).all ≤ 1 + allL l ∧ neat (seq l) = true := by
 obtain ⟨h1, h2⟩ := flat_small l h
 have hsp : ∀ x, (flat l).getLast? = some x → flat l = (flat l).dropLast ++ [x] := fun x hx => by
  obtain ⟨ys, hy⟩ := List.getLast?_eq_some_iff.1 hx
  rw [hy]; simp
 unfold seq
 split
 ·rename_i x _ hx
  have := hsp x hx
  have hm := neatL_iff.1 h2 x (by rw [this]; simp)
  have := allL_mem (l := flat l) (x := x) (by rw [this]; simp)
  exact ⟨by omega, hm⟩
 ·rename_i r x hx _
  have he := hsp x hx
  have hf := allL_filter (fun x => !idle x) (flat l).dropLast
  have ha : allL (flat l) = allL (flat l).dropLast + x.all := by
   conv => lhs; rw [he]
   rw [allL_app, allL, allL]; omega
  refine ⟨?_, neat_mk (by decide) ?_⟩
  ·rw [Trm.all, allL_app, allL, allL]
   omega
  ·refine neatL_iff.2 fun y hy => neatL_iff.1 h2 y ?_
   rw [he]
   rcases List.mem_append.1 hy with hy | hy
   ·exact List.mem_append_left _ ((List.mem_filter.1 hy).1)
   ·exact List.mem_append_right _ hy
 ·exact ⟨by rw [Trm.all, allL]; omega, rfl⟩
theorem lets_small (last : Trm) : ∀ (vs : List Int) (l : List Trm), neatL l = true → Subs (lets last vs l).1 ∧ allL (lets last vs l).2.2 ≤ allL (l.take vs.length) ∧ neatL (lets last vs l).2.2 = true
 | [], l, _ => by unfold lets; exact ⟨(fun p hp => by simp at hp), by simp [allL], rfl⟩
 | v :: vs, [], _ => by unfold lets; exact ⟨(fun p hp => by simp at hp), by simp [allL], rfl⟩
 | v :: vs, x :: l, h => by
  simp only [neatL, Bool.and_eq_true] at h
  obtain ⟨h1, h2, h3⟩ := lets_small last vs l h.2
  unfold lets
  simp only [List.length_cons, List.take_succ_cons, allL]
  split
  ·rename_i hl
   refine ⟨fun p hp => ?_, (by show allL (lets last vs l).2.2 ≤ _; omega), h3⟩
   rcases List.mem_cons.1 hp with rfl | hp
   ·exact ⟨hl, h.1⟩
   ·exact h1 p hp
  ·split
   ·refine ⟨h1, ?_, ?_⟩
    ·show allL (x :: (lets last vs l).2.2) ≤ _
     rw [allL]; omega
    ·show neatL (x :: (lets last vs l).2.2) = true
     rw [neatL, h.1, h3]; rfl
   ·exact ⟨h1, by omega, h3⟩
theorem letT_small (vars : List Int) (l : List Trm) (h : neatL l = true) : (letT vars l).all ≤ 1 + allL l ∧ neat (letT vars l) = true := by
 unfold letT
 split
 ·exact ⟨by rw [Trm.all]; exact Nat.le_refl _, neat_mk (by decide) h⟩
 ·rename_i last hlast
  have hml := List.mem_of_getElem? hlast
  have hnl := neatL_iff.1 h last hml
  obtain ⟨h1, h2, h3⟩ := lets_small last vars l h
  obtain ⟨p1, p2⟩ := put_one h1.rev last hnl
  have ha : allL (l.take vars.length) + last.all ≤ allL l := by
   conv => rhs; rw [← List.take_append_drop vars.length l]
   rw [allL_app]
   have := allL_mem (l := l.drop vars.length) (x := last) (by
    rw [List.mem_iff_getElem?]
    exact ⟨0, by rw [List.getElem?_drop]; simpa using hlast⟩)
   omega
  show (if (lets last vars l).2.1.isEmpty = true then put (lets last vars l).1.reverse last else mk 8 0 (lets last vars l).2.1 ((lets last vars l).2.2 ++ [put (lets last vars l).1.reverse last])).all ≤ _ ∧ neat (if (lets last vars l).2.1.isEmpty = true then put (lets last vars l).1.reverse last else mk 8 0 (lets last vars l).2.1 ((lets last vars l).2.2 ++ [put (lets last vars l).1.reverse last])) = true
  split
  ·exact ⟨by omega, p2⟩
  ·refine ⟨?_, neat_mk (by decide) ?_⟩
   ·rw [Trm.all, allL_app, allL, allL]; omega
   ·rw [neatL_app, h3, neatL, p2]; rfl
theorem post_small (F : Int → List Dat → Option Dat) (op n : Int) (v : List Int) (t : List Trm) (cs : List Dat) (h : neatL t = true) (hm : neat (mk op n v t) = true) : (post F op n v t cs).1.all ≤ 1 + allL t ∧ neat (post F op n v t cs).1 = true := by
 have self : (mk op n v t).all ≤ 1 + allL t ∧ neat (mk op n v t) = true := ⟨by rw [Trm.all]; exact Nat.le_refl _, hm⟩
 have part : ∀ y ∈ t, y.all ≤ 1 + allL t ∧ neat y = true := fun y hy => ⟨by have := allL_mem hy; omega, neatL_iff.1 h y hy⟩
 unfold post
 split
 ·split
  ·exact self
  ·rename_i hd r
   have hr : neatL r = true := neatL_iff.2 fun y hy => neatL_iff.1 h y (List.mem_cons_of_mem _ hy)
   have hd1 := neatL_iff.1 h hd (by simp)
   have hp := all_pos hd
   split
   ·obtain ⟨a, b⟩ := prim_small F hd.n r cs hr
    exact ⟨by rw [allL]; omega, b⟩
   ·split
    ·split
     ·rename_i b hb
      have hbn := neat_parts hd1 b (by rw [hb]; simp)
      have hba : hd.all = 1 + (b.all + 0) := by
       obtain ⟨o, n', v', t'⟩ := hd
       replace hb : t' = [b] := hb
       subst hb
       rfl
      obtain ⟨c, d⟩ := letT_small hd.v (r ++ [b]) (by rw [neatL_app, hr, neatL, hbn]; rfl)
      rw [allL_app, allL, allL] at c
      refine ⟨?_, d⟩
      show (letT hd.v (r ++ [b])).all ≤ _
      rw [allL]; omega
     ·exact self
    ·exact self
 split
 ·split
  ·rename_i a b c
   split
   ·split
    ·split
     ·exact part c (by simp)
     ·exact part b (by simp)
    ·exact self
   ·split
    ·exact part b (by simp)
    ·exact self
  ·exact self
 split
 ·exact prim_small F n t cs h
 split
 ·exact seq_small t h
 split
 ·exact letT_small v t h
 split
 ·split
  ·rename_i last hl
   split
   ·exact self
   ·exact part last (List.mem_of_getElem? hl)
  ·exact self
 split
 ·split
  ·rename_i a
   split
   ·exact part a (by simp)
   ·exact self
  ·exact self
 ·exact self
theorem termL_len (F : Int → List Dat → Option Dat) : ∀ (l : List Trm) (cs : List Dat), (termL F l cs).1.length = l.length
 | [], _ => rfl
 | x :: l, cs => by rw [termL, List.length_cons, List.length_cons, termL_len F l]
theorem term_small (F : Int → List Dat → Option Dat) : ∀ (x : Trm) (cs : List Dat), neat x = true → (term F x cs).1.all ≤ x.all ∧ neat (term F x cs).1 = true := by
 intro x
 induction x using Trm.ind with
 | h o n v t ih =>
  intro cs hx
  have hp := neat_parts hx
  have key : ∀ (l : List Trm) (cs : List Dat), (∀ y ∈ l, ∀ cs, (term F y cs).1.all ≤ y.all ∧ neat (term F y cs).1 = true) → allL (termL F l cs).1 ≤ allL l ∧ neatL (termL F l cs).1 = true := fun l => by
   induction l with
   | nil => intro cs _; exact ⟨Nat.le_refl _, rfl⟩
   | cons y l ihl =>
    intro cs hy
    obtain ⟨a, b⟩ := hy y (by simp) cs
    obtain ⟨c, d⟩ := ihl (term F y cs).2 fun z hz => hy z (List.mem_cons_of_mem _ hz)
    rw [termL, allL, allL, neatL, b, d]
    exact ⟨by omega, rfl⟩
  obtain ⟨k1, k2⟩ := key t cs fun y hy cs => ih y hy cs (hp y hy)
  have hm : neat (mk o n v (termL F t cs).1) = true := by
   simp only [neat, Bool.and_eq_true] at hx ⊢
   refine ⟨?_, k2⟩
   have : (termL F t cs).1.isEmpty = t.isEmpty := by
    have := termL_len F t cs
    cases t with
    | nil => rfl
    | cons _ _ => cases h : (termL F (_ :: _) cs).1 with
     | nil => rw [h] at this; cases this
     | cons _ _ => rfl
   rw [this]; exact hx.1
  obtain ⟨a, b⟩ := post_small F o n v (termL F t cs).1 (termL F t cs).2 k2 hm
  rw [term, Trm.all]
  exact ⟨by omega, b⟩
end Fd
end
section
open Go Go.RowKit Go.Maps Go.ChangeMaps Go.MapKept
open Go.WideElems (Fit findIdx_born findIdx_arr modify_last set_self )
theorem key_int : Keyed Tryz.prog 3 := int_keyed Tryz.underlying3
theorem isKeyZ (x : Int) : WideAt.IsKeyLit (.int .i64 x) := by simp [WideAt.IsKeyLit]
theorem zeroB (w : World) : (zeroValue 4).run Tryz.prog w = .ok (.bool false) w := by kernel_rfl
theorem wf_i64 {x : Int} (h : I64 x) : (Lit.int .i64 x).wf = true := by
 have h1 := h.1
 have h2 := h.2
 have e1 : IntKind.i64.min = -9223372036854775808 := by decide
 have e2 : IntKind.i64.max = 9223372036854775807 := by decide
 simp [Lit.wf, e1, e2]; omega
theorem keyOf_i64 {x : Int} (h : I64 x) : keyOf Tryz.prog 3 (.int .i64 x) = some (.int .i64 x) := keyOf_int_mk Tryz.underlying3 (wf_i64 h)
def MapVB (W : World) (b n : Nat) (f : Int → Bool) : Prop := ∃ D : DataW Unit, W.ownsMap Tryz.prog 3 (plainElem Tryz.prog 4) b n D ∧ IsMap D ∧ ∀ x, D.atKey (.int .i64 x) (.lit (.bool false)) = .lit (.bool (f x))
theorem MapVB.new (W : World) : MapVB (W.alloc (.map #[] 0)) W.heap.size 0 (fun _ => false) := ⟨_, World.ownsMap_made _ _ _ _, isMap_empty, fun x => by simp [DataW.atKey]⟩
theorem MapVB.lt {W : World} {b n : Nat} {f : Int → Bool} (h : MapVB W b n f) : b < W.heap.size := let ⟨_, h, _⟩ := h; h.lt
theorem ownsMap_block {P : Program} {k : TypeId} {R : Value → Option (DataW Unit × List MemPlace)} {W W' : World} {b n : Nat} {D : DataW Unit} (h : W.ownsMap P k R b n D) (hb : W'.heap[b]? = W.heap[b]?) : W'.ownsMap P k R b n D := by
 obtain ⟨es, clock, h1, h2⟩ := h
 exact ⟨es, clock, hb.trans h1, h2⟩
theorem MapVB.same {W W' : World} {b n : Nat} {f : Int → Bool} (h : MapVB W b n f) (hb : W'.heap[b]? = W.heap[b]?) : MapVB W' b n f := let ⟨D, h1, h2⟩ := h; ⟨D, ownsMap_block h1 hb, h2⟩
theorem MapVB.keep {W W' : World} {b n : Nat} {f : Int → Bool} (h : MapVB W b n f) (hb : Below W.heap.size W W') : MapVB W' b n f := h.same (hb.block _ h.lt)
theorem MapVB.mono {W : World} {b n n' : Nat} {f : Int → Bool} (h : MapVB W b n f) (hn : n ≤ n') : MapVB W b n' f := let ⟨D, h1, h2⟩ := h; ⟨D, h1.mono hn, h2⟩
theorem MapVB.put {D : DataW Unit} {f : Int → Bool} (hD : IsMap D) (hf : ∀ x, D.atKey (.int .i64 x) (.lit (.bool false)) = .lit (.bool (f x))) (k : Int) (c : Bool) : ∀ x, (D.put (.int .i64 k) (.lit (.bool c))).atKey (.int .i64 x) (.lit (.bool false)) = .lit (.bool (if x = k then c else f x)) := fun x => by
 by_cases h : x = k
 ·subst h; rw [atKey_put_same hD (isKeyZ x), if_pos rfl]
 ·rw [atKey_put_other (by intro e; simp only [Lit.int.injEq, true_and] at e; omega), hf x, if_neg h]
theorem MapVB.del {D : DataW Unit} {f : Int → Bool} (hf : ∀ x, D.atKey (.int .i64 x) (.lit (.bool false)) = .lit (.bool (f x))) (k : Int) : ∀ x, (D.del (.int .i64 k)).atKey (.int .i64 x) (.lit (.bool false)) = .lit (.bool (if x = k then false else f x)) := fun x => by
 by_cases h : x = k
 ·subst h; rw [atKey_del_same, if_pos rfl]
 ·rw [atKey_del_other (by intro e; simp only [Lit.int.injEq, true_and] at e; omega), hf x, if_neg h]
section
variable {w : World} {ops : Array Oper} {rest : List Oper} {o : Oper} {a : Act} {Q : Exit → Act → World → Prop}
theorem wpList_lookVB (hg : Region.wanted o (yielded ops a.tmps) = true) (m x : Operand) (hop : o.op = Op.lookup 63 m x false) (b n : Nat) (f : Int → Bool) (hm : a.eval m = .map (some b)) (hown : MapVB w b n f) (k : Int) (hx : a.eval x = .int .i64 k) (hk : I64 k)
  (hK : wpList Tryz.prog ops Q rest (a.put o.dst (.bool (f k))) w) : wpList Tryz.prog ops Q (o :: rest) a w := by
 obtain ⟨D, h1, h2, h3⟩ := hown
 exact wpList_lookup_own_bool w hg m x _ hop 3 4 key_int Tryz.underlying63 Tryz.underlying4 (zeroB w) b n D hm h1 _ _ hx (keyOf_i64 hk) (f k) (h3 k) hK
theorem wpList_putVB (hg : o.guard = none) (m x v : Operand) (hop : o.op = Op.mapUpdate 63 m x v) (b n : Nat) (f : Int → Bool) (hm : a.eval m = .map (some b)) (hown : MapVB w b n f) (hn : n < 1000000000000000) (k : Int) (c : Bool) (hx : a.eval x = .int .i64 k) (hv : a.eval v = .bool c) (hk : I64 k)
  (hK : ∀ w', MapVB w' b (n + 1) (fun x => if x = k then c else f x) → w.grownBy w' (some b) → wpList Tryz.prog ops Q rest (a.put o.dst undef) w') : wpList Tryz.prog ops Q (o :: rest) a w := by
 obtain ⟨D, h1, h2, h3⟩ := hown
 refine wpList_mapUpdate_own w hg m x v _ hop 3 4 key_int Tryz.underlying63 _ b n D hm h1 (by unfold maxLen; omega) _ _ _ hx hv (keyOf_i64 hk) _ _ (plainElem_bool Tryz.underlying4 c) ?_
 intro w' h4 h5
 exact hK w' ⟨_, h4, h2.put _ _, MapVB.put h2 h3 k c⟩ h5
theorem wpList_delVB (hg : o.guard = none) (m x : Operand) (hop : o.op = Op.call { callee := Callee.builtin Builtin.delete, args := #[m, x], argTypes := #[63, 3] }) (b n : Nat) (f : Int → Bool) (hm : a.eval m = .map (some b)) (hown : MapVB w b n f) (k : Int) (hx : a.eval x = .int .i64 k) (hk : I64 k)
  (hK : ∀ w', MapVB w' b n (fun x => if x = k then false else f x) → w.grownBy w' (some b) → wpList Tryz.prog ops Q rest (a.put o.dst (.tuple #[])) w') : wpList Tryz.prog ops Q (o :: rest) a w := by
 obtain ⟨D, h1, h2, h3⟩ := hown
 refine wpList_delete_own w hg m x _ _ hop 4 key_int Tryz.underlying63 _ b n D hm h1 _ _ hx (keyOf_i64 hk) ?_
 intro w' h4 h5
 exact hK w' ⟨_, h4, by obtain ⟨es, rfl⟩ := h2; exact ⟨_, rfl⟩, MapVB.del h3 k⟩ h5.grown
end
theorem entry_own {P : Program} {t k e : TypeId} {R : Value → Option (DataW Unit × List MemPlace)} {w : World} {b n : Nat} {D : DataW Unit} (h : w.ownsMap P k R b n D) (K : Keyed P k) (ht : P.underlying t = some (.map k e)) {z : Value} (hz : ∀ u : World, (zeroValue e).run P u = .ok z u) (hn : n < maxLen) {key : Value} {kl : Lit} (hkey : keyOf P k key = some kl) :
  ∃ v0 st w1, (Instr.mapEntry t (.map (some b)) key).run P w = .ok (.tuple #[v0, st]) w1 ∧ (∀ c, c ≠ b → w1.heap[c]? = w.heap[c]?) ∧ w1.heap.size = w.heap.size ∧ ∀ val d ps, R val = some (d, ps) → ∃ w2, (Instr.entryStore t (.map (some b)) st val).run P w1 = .ok () w2 ∧ w2.ownsMap P k R b (n + 1) (D.put kl d) ∧ w.grownBy w2 (some b) := by
 have H := h
 obtain ⟨es, clock, hb, F, hs, hD⟩ := h
 obtain ⟨s1, s2, _⟩ := F.stamped
 have others : ∀ o c, c ≠ b → (setBlock w b o).heap[c]? = w.heap[c]? := fun o c hc => heap_setBlock_other hb _ hc
 rcases K.find w hkey es.toList F.keys with ⟨f1, f2⟩ | ⟨j, e0, f1, f2, f3⟩
 ·refine ⟨z, goInt clock, setBlock w b (.map (es.push ⟨key, z, clock⟩) (clock + 1)), ?_, others _, by simp [setBlock], fun val d ps hv => ?_⟩
  ·simp [Instr.mapEntry, run_underlying ht, MapKept.run_getObj_map hb, K.check w false hkey, f1, hz, MapKept.run_setObj_map _ hb, Result.andThen, setBlock]
  obtain ⟨w2, hrun, h1, h2⟩ := H.update K ht hn hkey hv
  have hup : (Instr.mapUpdate t (.map (some b)) key val).run P w = .ok () (setBlock w b (.map (es.push ⟨key, val, clock⟩) (clock + 1))) := by
   simp [Instr.mapUpdate, run_underlying ht, MapKept.run_getObj_map hb, K.check w false hkey, f1, MapKept.run_setObj_map _ hb, Result.andThen, setBlock]
  obtain rfl : setBlock w b (.map (es.push ⟨key, val, clock⟩) (clock + 1)) = w2 := by simpa using hup.symm.trans hrun
  refine ⟨_, ?_, h1, h2⟩
  have hw1 : (setBlock w b (.map (es.push ⟨key, z, clock⟩) (clock + 1))).heap[b]? = some (.map (es.push ⟨key, z, clock⟩) (clock + 1)) := heap_setBlock_same hb _
  have hidx : (es.push ⟨key, z, clock⟩).findIdx? (fun e => ((e.born : Nat) : Int) == ((clock : Nat) : Int)) = some es.size := by
   rw [findIdx_arr]
   refine findIdx_born (l := (es.push ⟨key, z, clock⟩).toList) (j := es.size) (e0 := ⟨key, z, clock⟩) ?_ (by simp)
   rw [Array.toList_push, List.map_append]
   refine List.nodup_append.2 ⟨s2, by simp, fun p hp q hq => ?_⟩
   obtain ⟨x, hx, rfl⟩ := List.mem_map.1 hp
   have hq : q = clock := by simpa using hq
   have := s1 x hx
   omega
  have hmod : (es.push ⟨key, z, clock⟩).modify es.size (fun e => { e with val := val }) = es.push ⟨key, val, clock⟩ := by
   apply Array.ext'
   simp only [Array.toList_modify, Array.toList_push]
   exact modify_last _ _ es.toList
  simp [Instr.entryStore, MapKept.run_getObj_map hw1, asInt, asIntOf, goInt, hidx, hmod, MapKept.run_setObj_map _ hw1, Result.andThen]
  unfold setBlock
  simp
 ·have hj : es[j]? = some e0 := by simpa using f2
  have hsame : es.modify j (fun e => { e with key := key }) = es := by
   apply Array.ext'
   rw [Array.toList_modify, modify_eq_set _ _ _ _ f2, show ({ e0 with key := key } : MapEntry) = e0 by rw [← f3]]
   exact set_self _ _ _ f2
  refine ⟨e0.val, goInt e0.born, setBlock w b (.map es clock), ?_, others _, by simp [setBlock], fun val d ps hv => ?_⟩
  ·simp [Instr.mapEntry, run_underlying ht, MapKept.run_getObj_map hb, K.check w false hkey, f1, hj, f3, K.stays w hkey, hsame, MapKept.run_setObj_map _ hb, Result.andThen, setBlock]
  obtain ⟨w2, hrun, h1, h2⟩ := H.update K ht hn hkey hv
  have hup : (Instr.mapUpdate t (.map (some b)) key val).run P w = .ok () (setBlock w b (.map (es.modify j fun e => { e with key := key, val := val }) clock)) := by
   simp [Instr.mapUpdate, run_underlying ht, MapKept.run_getObj_map hb, K.check w false hkey, f1, hj, f3, K.stays w hkey, MapKept.run_setObj_map _ hb, Result.andThen, setBlock]
  obtain rfl : setBlock w b (.map (es.modify j fun e => { e with key := key, val := val }) clock) = w2 := by simpa using hup.symm.trans hrun
  refine ⟨_, ?_, h1, h2⟩
  have hw1 : (setBlock w b (.map es clock)).heap[b]? = some (.map es clock) := heap_setBlock_same hb _
  have hidx : es.findIdx? (fun e => ((e.born : Nat) : Int) == ((e0.born : Nat) : Int)) = some j := by
   rw [findIdx_arr]
   exact findIdx_born s2 f2
  have hmod : es.modify j (fun e => { e with val := val }) = es.modify j (fun e => { e with key := key, val := val }) := by
   apply Array.ext'
   simp only [Array.toList_modify, modify_eq_set _ _ _ _ f2, ← f3]
  simp [Instr.entryStore, MapKept.run_getObj_map hw1, asInt, asIntOf, goInt, hidx, hmod, MapKept.run_setObj_map _ hw1, Result.andThen]
  unfold setBlock
  simp
def Laid (t : TypeId) (w w1 : World) (b n : Nat) (f : Int → Bool) (k : Int) (st : Value) : Prop := (∀ c, c ≠ b → w1.heap[c]? = w.heap[c]?) ∧ w1.heap.size = w.heap.size ∧ ∀ c : Bool, ∃ w2, (Instr.entryStore t (.map (some b)) st (.bool c)).run Tryz.prog w1 = .ok () w2 ∧ MapVB w2 b (n + 1) (fun x => if x = k then c else f x) ∧ w.grownBy w2 (some b)
section
variable {w : World} {ops : Array Oper} {rest : List Oper} {o : Oper} {a : Act} {Q : Exit → Act → World → Prop}
theorem wpList_entryVB (hg : o.guard = none) (m x : Operand) (hop : o.op = Op.mapEntry 63 m x) (b n : Nat) (f : Int → Bool) (hm : a.eval m = .map (some b)) (hown : MapVB w b n f) (hn : n < 1000000000000000) (k : Int) (hx : a.eval x = .int .i64 k) (hk : I64 k)
  (hK : ∀ w1 v0 st, Hid (Laid 63 w w1 b n f k st) → wpList Tryz.prog ops Q rest (a.put o.dst (.tuple #[v0, st])) w1) : wpList Tryz.prog ops Q (o :: rest) a w := by
 obtain ⟨D, h1, h2, h3⟩ := hown
 obtain ⟨v0, st, w1, hrun, ho, hs, hst⟩ := entry_own h1 key_int Tryz.underlying63 (z := .bool false) zeroB (by unfold maxLen; omega) (keyOf_i64 hk)
 refine wpList_plain hg fun K' hK' => ?_
 unfold Oper.wp
 simp [execOp, hop, hm, hx, hrun, Result.andThen]
 refine hK' _ _ (hK w1 v0 st (Lib.hid ⟨ho, hs, fun c => ?_⟩))
 obtain ⟨w2, g1, g2, g3⟩ := hst (.bool c) _ _ (plainElem_bool Tryz.underlying4 c)
 exact ⟨w2, g1, ⟨_, g2, h2.put _ _, MapVB.put h2 h3 k c⟩, g3⟩
theorem wpList_storeVB (hg : o.guard = none) (m s v : Operand) (hop : o.op = Op.entryStore 63 m s v) {w0 : World} (b n : Nat) (f : Int → Bool) (k : Int) (st : Value) (c : Bool) (hl : Hid (Laid 63 w0 w b n f k st)) (hm : a.eval m = .map (some b)) (hs : a.eval s = st) (hv : a.eval v = .bool c)
  (hK : ∀ w', MapVB w' b (n + 1) (fun x => if x = k then c else f x) → w0.grownBy w' (some b) → wpList Tryz.prog ops Q rest (a.put o.dst undef) w') : wpList Tryz.prog ops Q (o :: rest) a w := by
 obtain ⟨w2, g1, g2, g3⟩ := hl.out.2.2 c
 refine wpList_plain hg fun K' hK' => ?_
 unfold Oper.wp
 simp [execOp, hop, hm, hs, hv, g1, Result.andThen]
 exact hK' _ _ (hK w2 g2 g3)
end
end
section
open Go Go.RowKit
theorem wp_region_invF {P : Program} {id : Nat} {Q : Exit → Act → World → Prop} {a0 : Act} {w : World} {l : List Oper} (n : Nat) (I : Array Bool → Act → World → Prop) (hm : P.follows .mixedOrders = true) (hB : monoB l.toArray n a0.tmps.size = true)
  (h0 : I (Array.replicate l.toArray.size false) a0 w.drew)
  (hops : ∀ i o, i < n → l.toArray[i]? = some o → ∀ (listed : Array Bool) (a : Act) (w1 : World), listed.size = l.toArray.size → a.defers = a0.defers → a.tmps.size = a0.tmps.size → Rest l.toArray n a0 a → I listed a w1 → listed.getD i false = false → (∀ e ∈ o.after, Region.binds .any e = true → listed.getD e.on false = true) →
   o.wp P a w1 (fun a' w' => ∃ v, a' = a.put o.dst v ∧ I (listed.setIfInBounds i true) a' w') Q)
  (hend : ∀ (listed : Array Bool) (a : Act) (w1 : World), (∀ i, i < n → listed.getD i false = true) → a.defers = a0.defers → a.tmps.size = a0.tmps.size → Rest l.toArray n a0 a → I listed a w1 → wpList P l.toArray Q (l.drop n) a w1) :
  (Code.region id l.toArray true).wp P Q a0 w := by
 simp only [monoB, monoG, Bool.and_eq_true, decide_eq_true_eq] at hB
 obtain ⟨⟨h1, h2, h3, h4, h5, h6⟩, h7⟩ := hB
 refine wp_region_any hm ?_
 have inv0 : HeadInv .any l.toArray n (Array.replicate l.toArray.size false) :=
  ⟨by simp, fun j oj _ hl => (by rw [getD_replicate_false] at hl; cases hl), fun t _ ht => getD_in (by simpa using ht) (getD_replicate_false _ _)⟩
 have hcount : ((List.range n).filter fun i => !(Array.replicate l.toArray.size false).getD i true).length = n := by
  rw [List.filter_eq_self.2]
  ·simp
  ·intro i hi
   have : i < l.toArray.size := by have := List.mem_range.1 hi; omega
   have h' : i < l.length := by simpa using this
   simp [h']
 have := any_inv (P := P) (Q := Q) (g := l.toArray.size - n) (I := fun listed a w => listed.size = l.toArray.size ∧ a.defers = a0.defers ∧ a.tmps.size = a0.tmps.size ∧ Rest l.toArray n a0 a ∧ I listed a w) h1 h2 h3 h4 ?_ ?_ n _ a0 w.drew hcount inv0
  ⟨by simp, rfl, rfl, fun _ _ => rfl, h0⟩
 ·rwa [show n + (l.toArray.size - n) = l.toArray.size by omega] at this
 ·rintro listed a w1 i ⟨hls, hdf, hsz, hrest, hI⟩ hi hr
  obtain ⟨hun, o, ho, hdeps⟩ := mem_ready.1 hr
  unfold wpOp
  simp only [ho]
  have hg : Region.wanted o (yielded l.toArray a.tmps) = true := wanted_of (R := fun _ _ _ => True) (w := w1) h7 (fun _ h => by cases h) hi ho (by rw [hsz]; exact Nat.le_refl _) (fun _ _ _ _ _ _ _ => trivial)
  rw [if_pos hg]
  left
  refine Oper.wp_mono ?_ (hops i o hi ho listed a w1 hls hdf hsz hrest hI (by
   have hlt : i < listed.size := by rw [hls]; omega
   simpa [hlt] using hun) hdeps)
  rintro a' w' ⟨v, rfl, hI'⟩
  refine ⟨by simpa using hls, ?_, ?_, ?_, hI'⟩
  ·cases o.dst <;> exact hdf
  ·cases hdst : o.dst with
   | none => exact hsz
   | some d => simpa [Act.put] using hsz
  ·intro t ht
   cases hdst : o.dst with
   | none => exact hrest t ht
   | some d' =>
    have hd' : d' < a.tmps.size := by
     have g1 := List.all_eq_true.1 (List.all_eq_true.1 h5 i (List.mem_range.2 hi)) i (List.mem_range.2 hi)
     simp only [ho, hdst, Bool.and_eq_true, decide_eq_true_eq] at g1
     rw [hsz]; exact g1.1
    rw [put_getD hd', if_neg ?_]
    ·exact hrest t ht
    ·rintro rfl; exact ht i o hi ho hdst
 ·rintro listed a w1 ⟨hls, hdf, hsz, hrest, hI⟩ inv hall
  have hdl : (l.drop n).length = l.toArray.size - n := by simp
  have g := wpAny_of_seq (md := .any) (Q' := Q) (l.drop n) n listed a w1 (fun j => by simp [List.getElem?_drop]) (by rw [hdl, headDone_eq h4 inv hall]; exact h6)
   (hend listed a w1 (fun i hi => by
    have := hall i hi
    have hlt : i < listed.size := by rw [hls]; omega
    simpa [hlt] using this) hdf hsz hrest hI)
  rwa [hdl] at g
theorem slotsF_at {ops : Array Oper} {n m i j d d' : Nat} {oi oj : Oper} (h : slotsB ops n m = true) (hi : i < n) (hj : j < n) (hoi : ops[i]? = some oi) (hoj : ops[j]? = some oj) (hd : oi.dst = some d) (hd' : oj.dst = some d') : d < m ∧ (i = j ∨ d ≠ d') := by
 have h1 := List.all_eq_true.1 (List.all_eq_true.1 h i (List.mem_range.2 hi)) j (List.mem_range.2 hj)
 simp only [hoi, hoj, hd, hd', Bool.and_eq_true, decide_eq_true_eq, Bool.or_eq_true, ne_eq] at h1
 exact h1
def DepsF (ops : Array Oper) (n : Nat) (R : Nat → Value → World → Prop) (o : Oper) (a : Act) (w : World) : Prop := ∀ j oj d, j < n → ops[j]? = some oj → (∃ e ∈ o.after, Region.binds .any e = true ∧ e.on = j) → oj.dst = some d → R j (a.tmps.getD d undef) w
def StF (Ph : Array Bool → World → Prop) (R : Nat → Value → World → Prop) (listed : Array Bool) (i : Nat) (o : Oper) (a : Act) (w1 : World) (a' : Act) (w' : World) : Prop := ∃ v, a' = a.put o.dst v ∧ R i v w' ∧ Ph (listed.setIfInBounds i true) w' ∧ ∀ j u, j ≠ i → listed.getD j false = true → R j u w1 → R j u w'
theorem wp_region_stF {P : Program} {id : Nat} {Q : Exit → Act → World → Prop} {a0 : Act} {w : World} {l : List Oper} (n : Nat) (Ph : Array Bool → World → Prop) (R : Nat → Value → World → Prop) (hm : P.follows .mixedOrders = true) (hB : monoB l.toArray n a0.tmps.size = true)
  (h0 : Ph (Array.replicate l.toArray.size false) w.drew)
  (hops : ∀ i o, i < n → l.toArray[i]? = some o → ∀ (listed : Array Bool) (a : Act) (w1 : World), i < listed.size → (∀ e ∈ o.after, Region.binds .any e = true → listed.getD e.on false = true) → Ph listed w1 → listed.getD i false = false → DepsF l.toArray n R o a w1 → Rest l.toArray n a0 a → o.wp P a w1 (StF Ph R listed i o a w1) Q)
  (hend : ∀ (listed : Array Bool) a w1, a.defers = a0.defers → a.tmps.size = a0.tmps.size → (∀ i, i < n → listed.getD i false = true) → Ph listed w1 → (∀ i o d, i < n → l.toArray[i]? = some o → o.dst = some d → R i (a.tmps.getD d undef) w1) → Rest l.toArray n a0 a → wpList P l.toArray Q (l.drop n) a w1) :
  (Code.region id l.toArray true).wp P Q a0 w := by
 have hB' := hB
 simp only [monoB, monoG, Bool.and_eq_true, decide_eq_true_eq] at hB'
 obtain ⟨⟨_, _, _, hn, hsl, _⟩, hgd⟩ := hB'
 refine wp_region_invF n (fun listed a W => Ph listed W ∧ ∀ i o d, i < n → l.toArray[i]? = some o → listed.getD i false = true → o.dst = some d → R i (a.tmps.getD d undef) W) hm hB ⟨h0, fun i o d _ _ h => by rw [getD_replicate_false] at h; cases h⟩ ?_ ?_
 ·intro i o hi ho listed a w1 hls hdf hsz hrest ⟨hph, hval⟩ hun hdeps
  have hlt : i < listed.size := by rw [hls]; omega
  refine Oper.wp_mono ?_ (hops i o hi ho listed a w1 hlt hdeps hph hun (fun j oj d hj hoj ⟨e, he, hb, hon⟩ hd => hval j oj d hj hoj (by have := hdeps e he hb; rwa [hon] at this) hd) hrest)
  rintro a' w' ⟨v, rfl, hv, hx, hkeep⟩
  refine ⟨v, rfl, hx, fun j oj d hj hoj hl hd => ?_⟩
  by_cases e : i = j
  ·subst e
   obtain rfl : oj = o := Option.some.inj (hoj.symm.trans ho)
   have hd' := (slotsF_at hsl hi hi ho ho hd hd).1
   rw [hd, put_getD (by rw [hsz]; exact hd'), if_pos rfl]
   exact hv
  ·rw [getD_set_ne false e] at hl
   have hold := hval j oj d hj hoj hl hd
   have hsame : (a.put o.dst v).tmps.getD d undef = a.tmps.getD d undef := by
    cases hdo : o.dst with
    | none => rfl
    | some d' =>
     obtain ⟨hd', hne⟩ := slotsF_at hsl hi hj ho hoj hdo hd
     rw [put_getD (by rw [hsz]; exact hd'), if_neg (hne.resolve_left e)]
   rw [hsame]
   exact hkeep j _ (fun h => e h.symm) hl hold
 ·intro listed a w1 hall hdf hsz hrest ⟨hph, hval⟩
  exact hend listed a w1 hdf hsz hall hph (fun i o d hi ho hd => hval i o d hi ho (hall i hi) hd) hrest
theorem wp_region_appF {P : Program} {id : Nat} {Q : Exit → Act → World → Prop} {a0 : Act} {w : World} {l : List Oper} (n p : Nat) (R : Nat → Value → World → Prop) (T : Nat → Prop) (hm : P.follows .mixedOrders = true) (hB : monoB l.toArray n a0.tmps.size = true)
  (hR : ∀ i v A B, i ≠ p → R i v A → Turned T w.drew A → Turned T A B → R i v B) (hRp : ∀ v A B, R p v A → Turned T w.drew A → Below A.heap.size A B → R p v B)
  (hops : ∀ i o, i < n → i ≠ p → l.toArray[i]? = some o → ∀ (a : Act) (w1 : World), Turned T w.drew w1 → DepsF l.toArray n R o a w1 → Rest l.toArray n a0 a → o.wp P a w1 (fun a' w' => ∃ v, a' = a.put o.dst v ∧ R i v w' ∧ Below w1.heap.size w1 w') Q)
  (hp : ∀ o, p < n → l.toArray[p]? = some o → ∀ (a : Act) (w1 : World), Below w.drew.heap.size w.drew w1 → DepsF l.toArray n R o a w1 → Rest l.toArray n a0 a → o.wp P a w1 (fun a' w' => ∃ v, a' = a.put o.dst v ∧ R p v w' ∧ Turned T w1 w') Q)
  (hend : ∀ a w1, a.defers = a0.defers → a.tmps.size = a0.tmps.size → Turned T w.drew w1 → (∀ i o d, i < n → l.toArray[i]? = some o → o.dst = some d → R i (a.tmps.getD d undef) w1) → Rest l.toArray n a0 a → wpList P l.toArray Q (l.drop n) a w1) :
  (Code.region id l.toArray true).wp P Q a0 w := by
 refine wp_region_stF n (fun listed W => Turned T w.drew W ∧ (listed.getD p false = false → Below w.drew.heap.size w.drew W)) R hm hB ⟨Turned.refl _ _, fun _ => Below.refl _ _⟩ ?_ ?_
 ·intro i o hi ho listed a w1 hlt _ ⟨ht, hb⟩ hun hdeps hrest
  by_cases e : i = p
  ·subst e
   refine Oper.wp_mono ?_ (hp o hi ho a w1 (hb hun) hdeps hrest)
   rintro a' w' ⟨v, rfl, hv, hx⟩
   exact ⟨v, rfl, hv, ⟨ht.next hx, fun h => by simp [hlt] at h⟩, fun j u hj _ h => hR j u _ _ hj h ht hx⟩
  ·refine Oper.wp_mono ?_ (hops i o hi e ho a w1 ht hdeps hrest)
   rintro a' w' ⟨v, rfl, hv, hx⟩
   refine ⟨v, rfl, hv, ⟨ht.next (.of_below hx), fun h => ?_⟩, fun j u hj _ h => ?_⟩
   ·rw [getD_set_ne false e] at h
    have := hb h
    exact this.trans (hx.mono this.size)
   ·by_cases e2 : j = p
    ·subst e2; exact hRp u _ _ h ht hx
    ·exact hR j u _ _ e2 h ht (.of_below hx)
 ·intro listed a w1 hdf hsz _ ⟨ht, _⟩ hval hrest
  exact hend a w1 hdf hsz ht hval hrest
theorem wp_region_newF {P : Program} {id : Nat} {Q : Exit → Act → World → Prop} {a0 : Act} {w : World} {l : List Oper} (n : Nat) (R : Nat → Value → World → Prop) (hm : P.follows .mixedOrders = true) (hB : monoB l.toArray n a0.tmps.size = true)
  (hR : ∀ i v A B, R i v A → Below w.drew.heap.size w.drew A → Below A.heap.size A B → R i v B)
  (hops : ∀ i o, i < n → l.toArray[i]? = some o → ∀ (a : Act) (w1 : World), Below w.drew.heap.size w.drew w1 → DepsF l.toArray n R o a w1 → Rest l.toArray n a0 a → o.wp P a w1 (fun a' w' => ∃ v, a' = a.put o.dst v ∧ R i v w' ∧ Below w1.heap.size w1 w') Q)
  (hend : ∀ a w1, a.defers = a0.defers → a.tmps.size = a0.tmps.size → Below w.drew.heap.size w.drew w1 → (∀ i o d, i < n → l.toArray[i]? = some o → o.dst = some d → R i (a.tmps.getD d undef) w1) → Rest l.toArray n a0 a → wpList P l.toArray Q (l.drop n) a w1) :
  (Code.region id l.toArray true).wp P Q a0 w := by
 refine wp_region_stF n (fun _ W => Below w.drew.heap.size w.drew W) R hm hB (Below.refl _ _) ?_ ?_
 ·intro i o hi ho listed a w1 hlt _ hb hun hdeps hrest
  refine Oper.wp_mono ?_ (hops i o hi ho a w1 hb hdeps hrest)
  rintro a' w' ⟨v, rfl, hv, hx⟩
  exact ⟨v, rfl, hv, hb.trans (hx.mono hb.size), fun j u _ _ h => hR j u _ _ h hb hx⟩
 ·intro listed a w1 hdf hsz _ hb hval hrest
  exact hend a w1 hdf hsz hb hval hrest
section
variable {P : Program} {o : Oper} {a : Act} {w : World} {Q : Exit → Act → World → Prop}
theorem DepsF.at {ops : Array Oper} {n : Nat} {R : Nat → Value → World → Prop} (h : DepsF ops n R o a w) (j d : Nat) (hB : depB ops n o j d = true) : R j (a.tmps.getD d undef) w := dep_at h j d hB
theorem wp_valF {K : Act → World → Prop} {v : Value} {w' : World} (h : (execOp a.eval o).run P w = .ok (.value v) w') (hK : K (a.put o.dst v) w') : o.wp P a w K Q := by
 unfold Oper.wp
 rw [h]
 exact hK
theorem wp_moveF {K : Act → World → Prop} {s : Nat} (ho : o.op = .move (.tmp s)) (hK : K (a.put o.dst (a.tmps.getD s undef)) w) : o.wp P a w K Q := wp_valF (by unfold execOp; rw [ho]; rfl) hK
theorem wp_callF {K : Act → World → Prop} {f : FuncId} {args : Array Operand} {ts : Array TypeId} {vals : Array Value} {R' : Ending → World → Prop} (ho : o.op = .call { callee := .value (.func f), args := args, argTypes := ts }) (hv : args.map a.eval = vals) (hf : ∀ args w, (callFunc f args).run P w = .ok (.enter f args) w)
  (hc : Calls P f vals w R') (hR : ∀ e w', R' e w' → ∃ v, e = .returned v ∧ K (a.put o.dst v) w') : o.wp P a w K Q := by
 have hef : a.eval (.func f) = .func (.func f) #[] #[] := rfl
 have hrun : (execOp a.eval o).run P w = .ok (.enter f vals) w := by
  simp [execOp, ho, resolve, Deferred.ofValue, invoke, hef, hf, hv]
 unfold Oper.wp
 rw [hrun]
 simp only [Oper.upon]
 refine hc.mono fun e w' h => ?_
 obtain ⟨v, rfl, hv⟩ := hR e w' h
 exact hv
end
def spellF (f : Nat → Value) : Nat → List Bool → List Value → List Value
 | _, _, [] => []
 | _, [], l => l
 | i, true :: m, _ :: l => f i :: spellF f (i + 1) m l
 | i, false :: m, v :: l => v :: spellF f (i + 1) m l
theorem spell_getF (f : Nat → Value) : ∀ (l : List Value) (i : Nat) (m : List Bool) (j : Nat), (spellF f i m l)[j]? = (l[j]?).map fun v => if m.getD j false = true then f (i + j) else v
 | [], i, m, j => by simp [spellF]
 | v :: l, i, [], j => by
  have : spellF f i [] (v :: l) = v :: l := by rw [spellF]; simp
  rw [this]
  cases h : (v :: l)[j]? <;> simp
 | v :: l, i, true :: m, 0 => by simp [spellF]
 | v :: l, i, false :: m, 0 => by simp [spellF]
 | v :: l, i, true :: m, j + 1 => by
  rw [spellF, List.getElem?_cons_succ, List.getElem?_cons_succ, spell_getF f l (i + 1) m j]
  simp only [List.getD_cons_succ, show i + 1 + j = i + (j + 1) by omega]
 | v :: l, i, false :: m, j + 1 => by
  rw [spellF, List.getElem?_cons_succ, List.getElem?_cons_succ, spell_getF f l (i + 1) m j]
  simp only [List.getD_cons_succ, show i + 1 + j = i + (j + 1) by omega]
def maskBF (ops : Array Oper) (n : Nat) (m : List Bool) : Bool := (List.range n).all fun i => match ops[i]? with | some o => (match o.dst with | some d => m.getD d false | none => true) | none => true
theorem act_spellF {ops : Array Oper} {n : Nat} {a a0 : Act} (m : List Bool) (hB : maskBF ops n m = true) (hd : a.defers = a0.defers) (hs : a.tmps.size = a0.tmps.size) (hr : Rest ops n a0 a) : ∃ f : Nat → Value, a = { tmps := (spellF f 0 m a0.tmps.toList).toArray, defers := a0.defers } ∧ ∀ t, f t = a.tmps.getD t undef := by
 refine ⟨fun t => a.tmps.getD t undef, ?_, fun _ => rfl⟩
 obtain ⟨t, d⟩ := a
 obtain ⟨t0, d0⟩ := a0
 simp only at hd hs
 subst hd
 simp only [Act.mk.injEq, and_true]
 apply Array.ext_getElem?
 intro j
 have h0 : ∀ l : List Value, l.toArray[j]? = l[j]? := fun l => by simp
 rw [h0 (spellF _ _ _ _), spell_getF]
 rw [Array.getElem?_toList]
 by_cases hj : j < t0.size
 ·rw [Array.getElem?_eq_getElem hj, Array.getElem?_eq_getElem (by rw [hs]; exact hj)]
  simp only [Option.map_some, Option.some.injEq, Nat.zero_add]
  by_cases hm : m.getD j false = true
  ·rw [if_pos hm]
   simp [Array.getD, hs, hj]
  ·rw [if_neg hm]
   have h1 := hr j (fun i o hi ho e => by
    have h2 := List.all_eq_true.1 hB i (List.mem_range.2 hi)
    simp only [ho, e] at h2
    exact hm h2)
   simpa [Array.getD, hs, hj] using h1
 ·rw [Array.getElem?_eq_none (by omega), Array.getElem?_eq_none (by omega)]
  rfl
end
end Go.Proofs.YtgbibibmpoekiaaGreatDoor

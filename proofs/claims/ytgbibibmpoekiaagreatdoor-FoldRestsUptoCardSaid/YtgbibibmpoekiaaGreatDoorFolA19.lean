/-
  What the proofs lean on: TrH, Fd8, Fd6.
-/
import Derived.Test.YtgbibibmpoekiaaGreatDoorFolA10
import Derived.Test.YtgbibibmpoekiaaGreatDoorFolA17
set_option maxRecDepth 100000
set_option maxHeartbeats 16000000
namespace Go.Proofs.YtgbibibmpoekiaaGreatDoor
section
open Go Go.RowKit
theorem SlC.cells {α : Type} {w w' : World} {B B' size : Nat} {R R' : α → List Value → Prop} {l : List α} {v : Value} (h : SlC w B size R l v) (hc : ∀ c o u, w.cell? ⟨c, o, none⟩ = some u → w'.cell? ⟨c, o, none⟩ = some u) (hB : B ≤ B') (hR : ∀ x ∈ l, ∀ cs, R x cs → R' x cs) : SlC w' B' size R' l v := by
 obtain ⟨o, len, cap, rfl, h1, h2, h3, h4⟩ := h
 refine ⟨o, len, cap, rfl, h1, h2, h3, ?_⟩
 cases o with
 | none => exact h4
 | some a =>
  refine ⟨fun hl => ⟨(h4.1 hl).1, Nat.lt_of_lt_of_le (h4.1 hl).2 hB⟩, fun i x hx => ?_⟩
  obtain ⟨cs, hl, hk, hr⟩ := h4.2 i x hx
  exact ⟨cs, hl, fun j u hu => hc _ _ _ (hk j u hu), hR x (List.mem_of_getElem? hx) cs hr⟩
theorem TrmR.cells {w w' : World} {B B' : Nat} (hc : ∀ c o u, w.cell? ⟨c, o, none⟩ = some u → w'.cell? ⟨c, o, none⟩ = some u) (hB : B ≤ B') : ∀ (x : Trm) (cs : List Value), TrmR w B x cs → TrmR w' B' x cs := by
 intro x
 induction x using Trm.ind with
 | _ o n v t ih =>
  intro cs h
  obtain ⟨vs, ts, rfl, h1, h2, h3, h4⟩ := trmR_iff.1 h
  exact trmR_iff.2 ⟨vs, ts, rfl, h1, h2, h3.cells hc hB fun _ _ _ h => h, h4.cells hc hB fun x hx cs h => ih x hx cs h⟩
theorem TrmR.shown {W W' : World} {S S' : Nat → Prop} {B B' : Nat} {x : Trm} {cs : List Value} (h : TrmR (hide W S) B x cs) (hs : Shown W S W' S') (hB : B ≤ B') : TrmR (hide W' S') B' x cs := TrmR.cells hs.cells hB x cs h
theorem TrmS.shown {W W' : World} {S S' : Nat → Prop} {B B' : Nat} {l : List Trm} {v : Value} (h : TrmS (hide W S) B l v) (hs : Shown W S W' S') (hB : B ≤ B') : TrmS (hide W' S') B' l v := SlC.cells h hs.cells hB fun _ _ _ h => h.shown hs hB
theorem ints_shown {W W' : World} {S S' : Nat → Prop} {B B' : Nat} {l : List Int} {v : Value} (h : SlC (hide W S) B 1 IntR l v) (hs : Shown W S W' S') (hB : B ≤ B') : SlC (hide W' S') B' 1 IntR l v := SlC.cells h hs.cells hB fun _ _ _ h => h
theorem TrmR.unhide {W : World} {S : Nat → Prop} {B : Nat} {x : Trm} {cs : List Value} (h : TrmR (hide W S) B x cs) : TrmR W B x cs := TrmR.cells (fun _ _ _ h => (hide_some h).2) (Nat.le_refl _) x cs h
theorem TrmS.unhide {W : World} {S : Nat → Prop} {B : Nat} {l : List Trm} {v : Value} (h : TrmS (hide W S) B l v) : TrmS W B l v := SlC.cells h (fun _ _ _ h => (hide_some h).2) (Nat.le_refl _) fun _ _ _ h => h.unhide
theorem ints_unhide {W : World} {S : Nat → Prop} {B : Nat} {l : List Int} {v : Value} (h : SlC (hide W S) B 1 IntR l v) : SlC W B 1 IntR l v := SlC.cells h (fun _ _ _ h => (hide_some h).2) (Nat.le_refl _) fun _ _ _ h => h
theorem hide_dug {W : World} {S : Nat → Prop} {B : Nat} (hS : ∀ b, S b → B ≤ b) : Below B W (hide W S) := ⟨rfl, rfl, rfl, by rw [hide_size]; exact Nat.le_refl _, fun b hb => hide_heap fun h => by have := hS b h; omega⟩
theorem TrmR.dug {W : World} {S : Nat → Prop} {B : Nat} {x : Trm} {cs : List Value} (h : TrmR W B x cs) (hS : ∀ b, S b → B ≤ b) : TrmR (hide W S) B x cs := TrmR.kept (hide_dug hS) x cs h
def GrownT (e : TypeId) (W : World) (S : Nat → Prop) (base : Nat) (l : List Trm) (v : Value) : Prop := (∀ b, S b → b < W.heap.size) ∧ (∀ g, v.ownBlock = some g → ¬ S g) ∧ base ≤ W.heap.size ∧ ∃ xs, W.ownsRow base e 4 v l.length xs ∧ CellsG 4 (TrmR (hide W (SR S v)) W.heap.size) l xs
variable {e : TypeId}
theorem GrownT.nil (W : World) {S : Nat → Prop} {base : Nat} (hS : ∀ b, S b → b < W.heap.size) (hb : base ≤ W.heap.size) : GrownT e W S base [] (.slice none 0 0) := ⟨hS, fun _ h => by simp [Value.ownBlock] at h, hb, [], World.ownsRow_nil _ _ _ _, rfl⟩
theorem GrownT.block {W : World} {S : Nat → Prop} {base : Nat} {l : List Trm} {v : Value} (h : GrownT e W S base l v) {g : Nat} (hg : v.ownBlock = some g) : base ≤ g ∧ g < W.heap.size := by
 obtain ⟨_, _, _, xs, h1, _⟩ := h
 exact h1.lt g hg
theorem GrownT.apart {W : World} {S : Nat → Prop} {base : Nat} {l : List Trm} {v : Value} (h : GrownT e W S base l v) : ∀ g, v.ownBlock = some g → ¬ S g := h.2.1
theorem GrownT.form {W : World} {S : Nat → Prop} {base : Nat} {l : List Trm} {v : Value} (h : GrownT e W S base l v) : ∃ o len cap, v = .slice o len cap ∧ len ≤ cap ∧ len = l.length := by
 obtain ⟨_, _, _, xs, h1, _⟩ := h
 rcases h1.2 with ⟨hv, h0⟩ | ⟨g, cap, cur, hv, _, _, h2, _⟩
 ·exact ⟨_, _, _, hv, Nat.le_refl _, h0.symm⟩
 ·exact ⟨_, _, _, hv, h2, rfl⟩
theorem GrownT.turned {T : Nat → Prop} {W W' : World} {S : Nat → Prop} {base : Nat} {l : List Trm} {v : Value} (h : GrownT e W S base l v) (ht : Turned T W W') (hT : ∀ b, b < W.heap.size → T b → S b) : GrownT e W' S base l v := by
 obtain ⟨h0, hap, h00, xs, h1, h2⟩ := h
 refine ⟨fun b hb => Nat.lt_of_lt_of_le (h0 b hb) ht.size, hap, Nat.le_trans h00 ht.size, xs, ?_, h2.mono fun _ _ _ hx => hx.shown (Shown.turned ht fun b hb hs => .inl (hT b hb hs)) ht.size⟩
 refine ⟨h1.1, ?_⟩
 rcases h1.2 with h' | ⟨g, cap, cur, rfl, k2, k3, k4⟩
 ·exact .inl h'
 ·refine .inr ⟨g, cap, cur, rfl, k2, ?_, k4⟩
  have hlt := (h1.lt g rfl).2
  exact (ht.block g hlt fun hs => hap g rfl (hT g hlt hs)).trans k3
theorem GrownT.below {W W' : World} {S : Nat → Prop} {base : Nat} {l : List Trm} {v : Value} (h : GrownT e W S base l v) (hb : Below W.heap.size W W') : GrownT e W' S base l v :=
 h.turned (T := fun _ => False) (Turned.of_below hb) fun _ _ h => h.elim
theorem GrownT.rep {W : World} {S : Nat → Prop} {base : Nat} {l : List Trm} {v : Value} (h : GrownT e W S base l v) : TrmS (hide W S) W.heap.size l v := by
 obtain ⟨h0, hap, h00, xs, h1, h2⟩ := h
 have := slC_of_row (w := hide W S) (row_hide h1 hap) (h2.mono fun _ _ _ hx => hx.shown (Shown.less W fun b _ hb => .inl hb) (Nat.le_refl _))
 rwa [hide_size] at this
theorem GrownT.less {W : World} {S S' : Nat → Prop} {base base' : Nat} {l : List Trm} {v : Value} (h : GrownT e W S' base' l v) (hs : ∀ b, S b → S' b) (hb : base ≤ base') : GrownT e W S base l v := by
 obtain ⟨h0, hap, h00, xs, h1, h2⟩ := h
 refine ⟨fun b hb => h0 b (hs b hb), fun g hg h => hap g hg (hs g h), Nat.le_trans hb h00, xs, ⟨h1.1, ?_⟩, h2.mono fun _ _ _ hx => hx.shown (Shown.less W fun b _ hb => hb.imp (hs b) id) (Nat.le_refl _)⟩
 rcases h1.2 with h' | ⟨g, cap, cur, rfl, k2, k3⟩
 ·exact .inl h'
 ·exact .inr ⟨g, cap, cur, rfl, Nat.le_trans hb k2, k3⟩
theorem svT_lt {W : World} {S : Nat → Prop} {base : Nat} {l : List Trm} {v : Value} (h : GrownT e W S base l v) {n : Nat} (hn : W.heap.size ≤ n) : ∀ b, SR S v b → b < n := fun b hb => hb.elim (fun hb => by have := h.1 b hb; omega) fun hb => Nat.lt_of_lt_of_le (h.block hb).2 hn
end
section
open Go Go.RowKit
namespace Fd
open Trm
theorem bndL_app (l m : List Trm) : bndL (l ++ m) = bndL l ++ bndL m := by
 induction l with
 | nil => simp [bndL]
 | cons x l ih => rw [List.cons_append, bndL, bndL, ih, List.append_assoc]
theorem lets_wf {nc nk : Int} {fr : Bool} {sc : Int → Bool} (last : Trm) (rest : List Trm) : ∀ (vs : List Int) (r : List Trm), vs.length = r.length → AllW nc nk fr sc r →
  (∀ p ∈ (lets last vs (r ++ rest)).1, light p.2 = true ∧ wf nc nk fr p.2 sc = true) ∧ AllW nc nk fr sc (lets last vs (r ++ rest)).2.2 ∧ (lets last vs (r ++ rest)).2.1.length = (lets last vs (r ++ rest)).2.2.length ∧
  (∀ n, n ∈ vs → named n last = true → (lets last vs (r ++ rest)).1.lookup n = none → n ∈ (lets last vs (r ++ rest)).2.1) ∧
  (∀ a, (lets last vs (r ++ rest)).2.1.count a ≤ vs.count a ∧ (bndL (lets last vs (r ++ rest)).2.2).count a ≤ (bndL r).count a)
 | [], r, h, _ => by
  have : r = [] := List.length_eq_zero_iff.1 h.symm
  subst this
  unfold lets
  exact ⟨(fun p hp => by simp at hp), (fun y hy => by simp at hy), rfl, (fun n hn => by simp at hn), fun a => ⟨Nat.le_refl _, Nat.le_refl _⟩⟩
 | v :: vs, [], h, _ => by simp at h
 | v :: vs, x :: r, h, hw => by
  obtain ⟨i1, i2, i3, i4, i5⟩ := lets_wf last rest vs r (by simpa using h) (fun y hy => hw y (List.mem_cons_of_mem _ hy))
  have e0 : lets last (v :: vs) (x :: r ++ rest) = if light x then ((v, x) :: (lets last vs (r ++ rest)).1, (lets last vs (r ++ rest)).2) else if !idle x || named v last then ((lets last vs (r ++ rest)).1, v :: (lets last vs (r ++ rest)).2.1, x :: (lets last vs (r ++ rest)).2.2) else lets last vs (r ++ rest) := by
   conv => lhs; rw [List.cons_append]; unfold lets
  have hc : ∀ a, vs.count a ≤ (v :: vs).count a := fun a => List.count_le_count_cons
  have hb : ∀ a, (bndL r).count a ≤ (bndL (x :: r)).count a := fun a => by rw [bndL, List.count_append]; omega
  rw [e0]
  by_cases hl : light x = true
  ·rw [if_pos hl]
   refine ⟨fun p hp => ?_, i2, i3, fun n hn hm hk => ?_, fun a => ⟨Nat.le_trans (i5 a).1 (hc a), Nat.le_trans (i5 a).2 (hb a)⟩⟩
   ·rcases List.mem_cons.1 hp with rfl | hp
    ·exact ⟨hl, hw x (by simp)⟩
    ·exact i1 p hp
   ·rw [List.lookup_cons] at hk
    by_cases e : n = v
    ·subst e
     simp at hk
    ·have e2 : (n == v) = false := by simpa using e
     simp only [e2] at hk
     exact i4 n ((List.mem_cons.1 hn).resolve_left e) hm hk
  ·rw [if_neg hl]
   by_cases hi : (!idle x || named v last) = true
   ·rw [if_pos hi]
    refine ⟨i1, fun y hy => ?_, by simp [i3], fun n hn hm hk => ?_, fun a => ⟨?_, ?_⟩⟩
    ·rcases List.mem_cons.1 hy with rfl | hy
     ·exact hw y (by simp)
     ·exact i2 y hy
    ·rcases List.mem_cons.1 hn with rfl | hn
     ·simp
     ·exact List.mem_cons_of_mem _ (i4 n hn hm hk)
    ·have := (i5 a).1
     simp only [List.count_cons]
     omega
    ·have := (i5 a).2
     show (bndL (x :: (lets last vs (r ++ rest)).2.2)).count a ≤ _
     rw [bndL, bndL, List.count_append, List.count_append]
     omega
   ·rw [if_neg hi]
    refine ⟨i1, i2, i3, fun n hn hm hk => ?_, fun a => ⟨Nat.le_trans (i5 a).1 (hc a), Nat.le_trans (i5 a).2 (hb a)⟩⟩
    rcases List.mem_cons.1 hn with rfl | hn
    ·rw [hm, Bool.or_true] at hi
     exact absurd rfl hi
    ·exact i4 n hn hm hk
theorem put_bnd {b : List (Int × Trm)} (hb : ∀ p ∈ b, p.2.bnd = []) (a : Int) : ∀ x : Trm, (put b x).bnd.count a ≤ x.bnd.count a := by
 intro x
 induction x using Trm.ind with
 | h o n v t ih =>
  have key : ∀ l : List Trm, (∀ y ∈ l, (put b y).bnd.count a ≤ y.bnd.count a) → (bndL (putL b l)).count a ≤ (bndL l).count a := fun l => by
   induction l with
   | nil => intro _; exact Nat.le_refl _
   | cons y l ihl =>
    intro hy
    have h1 := hy y (by simp)
    have h2 := ihl fun z hz => hy z (List.mem_cons_of_mem _ hz)
    rw [putL, bndL, bndL, List.count_append, List.count_append]
    omega
  have hk := key t ih
  have hsame : (mk o n v (putL b t)).bnd.count a ≤ (mk o n v t).bnd.count a := by rw [bnd, bnd, List.count_append, List.count_append]; omega
  unfold put
  split
  ·split
   ·rename_i y hy
    obtain ⟨p, hp⟩ := look_mem hy
    rw [show y.bnd = [] from hb _ hp]
    exact Nat.zero_le _
   ·exact hsame
  ·exact hsame
theorem light_bnd {nc nk : Int} {fr : Bool} {x : Trm} {sc : Int → Bool} (h : wf nc nk fr x sc = true) (hl : light x = true) : x.bnd = [] := by
 obtain ⟨h1, h2⟩ := light_bare h hl
 obtain ⟨o, n, v, t⟩ := x
 replace h1 : v = [] := h1
 replace h2 : t = [] := h2
 subst h1 h2
 rfl
theorem lookup_app {n : Int} : ∀ {b c : List (Int × Trm)}, (b ++ c).lookup n = none → b.lookup n = none ∧ c.lookup n = none
 | [], c, h => ⟨rfl, h⟩
 | p :: b, c, h => by
  rw [List.cons_append, List.lookup_cons] at h
  rw [List.lookup_cons]
  split at h
  ·cases h
  ·exact lookup_app h
theorem lookup_rev {n : Int} : ∀ {b : List (Int × Trm)}, b.reverse.lookup n = none → b.lookup n = none
 | [], _ => rfl
 | p :: b, h => by
  rw [List.reverse_cons] at h
  obtain ⟨h1, h2⟩ := lookup_app h
  rw [List.lookup_cons] at h2 ⊢
  split at h2
  ·cases h2
  ·exact lookup_rev h1
theorem letT_wf {nc nk : Int} {fr : Bool} {sc : Int → Bool} {vs : List Int} {r : List Trm} {last : Trm} (hl : vs.length = r.length) (hr : AllW nc nk fr sc r) (hw : wf nc nk fr last (addV sc vs) = true) :
  wf nc nk fr (letT vs (r ++ [last])) sc = true ∧ ∀ a, (letT vs (r ++ [last])).bnd.count a ≤ (vs ++ bndL (r ++ [last])).count a := by
 have hg : (r ++ [last])[vs.length]? = some last := by rw [hl]; simp
 obtain ⟨h1', h2, h3, h4', h5⟩ := lets_wf last [last] vs r hl hr
 have h1 : ∀ p ∈ (lets last vs (r ++ [last])).1.reverse, light p.2 = true ∧ wf nc nk fr p.2 sc = true := fun p hp => h1' p (List.mem_reverse.1 hp)
 have h4 : ∀ n, n ∈ vs → named n last = true → (lets last vs (r ++ [last])).1.reverse.lookup n = none → n ∈ (lets last vs (r ++ [last])).2.1 := fun n a b c => h4' n a b (lookup_rev c)
 have e1 : letT vs (r ++ [last]) = if (lets last vs (r ++ [last])).2.1.isEmpty = true then put (lets last vs (r ++ [last])).1.reverse last else mk 8 0 (lets last vs (r ++ [last])).2.1 ((lets last vs (r ++ [last])).2.2 ++ [put (lets last vs (r ++ [last])).1.reverse last]) := by unfold letT; rw [hg]
 have hp := fun a => put_bnd (b := (lets last vs (r ++ [last])).1.reverse) (fun p hp => light_bnd (h1 p hp).2 (h1 p hp).1) a last
 have hin : ∀ n, named n last = true → addV sc vs n = true → (lets last vs (r ++ [last])).1.reverse.lookup n = none → addV sc (lets last vs (r ++ [last])).2.1 n = true := fun n hm hs hk => by
  simp only [addV, Bool.or_eq_true, List.contains_iff_mem] at hs ⊢
  exact hs.imp_right fun h => h4 n h hm hk
 rw [e1]
 by_cases he : (lets last vs (r ++ [last])).2.1.isEmpty = true
 ·rw [if_pos he]
  refine ⟨put_wf (Int.le_refl _) last _ sc hw h1 fun n hm hs hk => ?_, fun a => ?_⟩
  ·have := hin n hm hs hk
   rwa [List.isEmpty_iff.1 he, addV_nil] at this
  ·have := hp a
   rw [bndL_app, bndL, bndL, List.append_nil, List.count_append, List.count_append]
   omega
 ·rw [if_neg he]
  refine ⟨wf_close (by decide) (by simp [countsB, h3]) (by simp [numberB]) ((wfL_snoc (by decide)).2 ⟨h2, put_wf (Int.le_refl _) last _ _ hw (fun p hp => ⟨(h1 p hp).1, light_mono (Int.le_refl _) (h1 p hp).1 (addV_le) (h1 p hp).2⟩) hin⟩), fun a => ?_⟩
  have := hp a
  obtain ⟨k1, k2⟩ := h5 a
  simp only [bnd, bndL_app, bndL, List.append_nil, List.count_append]
  omega
theorem flat_bnd (a : Int) : ∀ l : List Trm, (bndL (flat l)).count a ≤ (bndL l).count a
 | [] => Nat.le_refl _
 | x :: l => by
  have ih := flat_bnd a l
  unfold flat
  split
  ·obtain ⟨o, n, v, t⟩ := x
   rw [bndL_app, bndL, bnd, List.count_append, List.count_append, List.count_append]
   show (bndL t).count a + _ ≤ _
   omega
  ·rw [bndL, bndL, List.count_append, List.count_append]
   omega
theorem filter_bnd (a : Int) (p : Trm → Bool) : ∀ l : List Trm, (bndL (l.filter p)).count a ≤ (bndL l).count a
 | [] => Nat.le_refl _
 | x :: l => by
  have ih := filter_bnd a p l
  rw [List.filter_cons]
  split
  ·rw [bndL, bndL, List.count_append, List.count_append]; omega
  ·rw [bndL, List.count_append]; omega
theorem seq_bnd (a : Int) (l : List Trm) : (seq l).bnd.count a ≤ (bndL l).count a := by
 have hf := flat_bnd a l
 have hsp : ∀ x, (flat l).getLast? = some x → (bndL (flat l)).count a = (bndL (flat l).dropLast).count a + x.bnd.count a := fun x hx => by
  obtain ⟨ys, hy⟩ := List.getLast?_eq_some_iff.1 hx
  rw [hy, bndL_app, bndL, bndL, List.append_nil, List.count_append]
  simp
 have hg := filter_bnd a (fun x => !idle x) (flat l).dropLast
 unfold seq
 split
 ·rename_i x _ hx
  have := hsp x hx
  omega
 ·rename_i r x hx _
  have := hsp x hx
  rw [bnd, bndL_app, bndL, bndL, List.append_nil, List.nil_append, List.count_append]
  omega
 ·exact Nat.zero_le _
theorem prim_bnd (F : Int → List Dat → Option Dat) (n : Int) (l : List Trm) (cs : List Dat) (a : Int) : (prim F n l cs).1.bnd.count a ≤ (bndL l).count a := by
 have hm : (mk 10 n [] l).bnd.count a ≤ (bndL l).count a := by rw [bnd, List.nil_append]; exact Nat.le_refl _
 unfold prim
 split
 ·exact hm
 ·split
  ·exact hm
  ·exact Nat.zero_le _
theorem bnd_mem (a : Int) {y : Trm} {l : List Trm} (h : y ∈ l) : y.bnd.count a ≤ (bndL l).count a := by
 induction l with
 | nil => simp at h
 | cons x l ih =>
  rw [bndL, List.count_append]
  rcases List.mem_cons.1 h with rfl | h
  ·omega
  ·have := ih h; omega
end Fd
end
section
open Go Go.RowKit
namespace Fd
open Trm
mutual
def cnt : Trm → Bool
 | mk op _ v t => (!(op == 8) || t.length == v.length + 1) && ((!(op == 10) || v.isEmpty) && cntL t)
def cntL : List Trm → Bool
 | [] => true
 | x :: l => cnt x && cntL l
end
theorem cntL_iff {l : List Trm} : cntL l = true ↔ ∀ y ∈ l, cnt y = true := by
 induction l with
 | nil => simp [cntL]
 | cons x l ih => simp [cntL, ih]
theorem cnt_parts {x : Trm} (h : cnt x = true) : ∀ y ∈ x.t, cnt y = true := by
 obtain ⟨o, n, v, t⟩ := x
 simp only [cnt, Bool.and_eq_true] at h
 exact cntL_iff.1 h.2.2
variable {F : Int → List Dat → Option Dat}
theorem put_nil : ∀ x : Trm, put [] x = x := by
 intro x
 induction x using Trm.ind with
 | h o n v t ih =>
  have key : ∀ l : List Trm, (∀ y ∈ l, put [] y = y) → putL [] l = l := fun l => by
   induction l with
   | nil => intro _; rfl
   | cons y l ihl => intro hy; rw [putL, hy y (by simp), ihl fun z hz => hy z (List.mem_cons_of_mem _ hz)]
  unfold put
  rw [key t ih]
  split <;> rfl
theorem dataOf_nil {cs : List Dat} {l : List Trm} {data : List Dat} (h : dataOf cs l = some data) (hl : l = []) : data = [] := by
 subst hl
 simpa [dataOf] using h.symm
theorem prim_still {n : Int} {l : List Trm} {cs : List Dat} (hc : l = [] → F n [] = none) (hs : 1 + allL l ≤ (prim F n l cs).1.all) : prim F n l cs = (mk 10 n [] l, cs) := by
 unfold prim at hs ⊢
 split
 ·rfl
 ·rename_i data hd
  rw [hd] at hs
  split
  ·rfl
  ·rename_i d hF
   exfalso
   simp only [hF] at hs
   rw [Trm.all, allL] at hs
   have : l = [] := by
    cases l with
    | nil => rfl
    | cons x l => rw [allL] at hs; have := all_pos x; omega
   rw [dataOf_nil hd this, hc this] at hF
   cases hF
theorem flat_still : ∀ l : List Trm, allL l ≤ allL (flat l) → flat l = l ∧ allL (flat l) = allL l
 | [], _ => ⟨rfl, rfl⟩
 | x :: l, h => by
  have hle : ∀ l : List Trm, allL (flat l) ≤ allL l := fun l => by
   induction l with
   | nil => exact Nat.le_refl _
   | cons x l ih =>
    unfold flat
    split
    ·obtain ⟨o, n, v, t⟩ := x
     rw [allL_app, allL, Trm.all]
     show allL t + _ ≤ _
     omega
    ·rw [allL, allL]; omega
  have hl := hle l
  unfold flat at h ⊢
  by_cases ho : x.op = 6
  ·exfalso
   rw [if_pos ho] at h
   obtain ⟨o, n, v, t⟩ := x
   rw [allL_app, allL, Trm.all] at h
   replace h : 1 + allL t + allL l ≤ allL t + allL (flat l) := h
   omega
  ·rw [if_neg ho] at h ⊢
   rw [allL, allL] at h
   obtain ⟨e, _⟩ := flat_still l (by omega)
   rw [e]
   exact ⟨rfl, rfl⟩
theorem filter_still (p : Trm → Bool) : ∀ l : List Trm, allL l ≤ allL (l.filter p) → l.filter p = l
 | [], _ => rfl
 | x :: l, h => by
  rw [List.filter_cons] at h ⊢
  split
  ·rename_i hp
   rw [if_pos hp, allL, allL] at h
   rw [filter_still p l (by omega)]
  ·rename_i hp
   rw [if_neg hp, allL] at h
   have := allL_filter p l
   have := all_pos x
   omega
theorem seq_still {l : List Trm} (hs : 1 + allL l ≤ (seq l).all) : seq l = mk 6 0 [] l := by
 have hsp : ∀ x, (flat l).getLast? = some x → flat l = (flat l).dropLast ++ [x] := fun x hx => by
  obtain ⟨ys, hy⟩ := List.getLast?_eq_some_iff.1 hx
  rw [hy]; simp
 have hle : allL (flat l) ≤ allL l := by
  clear hs hsp
  induction l with
  | nil => exact Nat.le_refl _
  | cons x l ih =>
   unfold flat
   split
   ·obtain ⟨o, n, v, t⟩ := x
    rw [allL_app, allL, Trm.all]
    show allL t + _ ≤ _
    omega
   ·rw [allL, allL]; omega
 cases hl : (flat l).getLast? with
 | none =>
  have e : flat l = [] := by simpa using hl
  have e1 : seq l = mk 6 0 [] [] := by unfold seq; rw [hl]; cases ((flat l).dropLast.filter fun x => !idle x) <;> rfl
  rw [e1, Trm.all, allL] at hs
  cases l with
  | nil => exact e1
  | cons x l => rw [allL] at hs; have := all_pos x; omega
 | some x =>
  have he := hsp x hl
  have ha : allL (flat l) = allL (flat l).dropLast + x.all := by
   conv => lhs; rw [he]
   rw [allL_app, allL, allL]; omega
  have hf := allL_filter (fun x => !idle x) (flat l).dropLast
  cases hfl : (flat l).dropLast.filter (fun x => !idle x) with
  | nil =>
   have e1 : seq l = x := by unfold seq; rw [hl, hfl]
   rw [e1] at hs
   omega
  | cons a al =>
   have e1 : seq l = mk 6 0 [] ((a :: al) ++ [x]) := by unfold seq; rw [hl, hfl]
   rw [e1, ← hfl, Trm.all, allL_app, allL, allL] at hs
   have k1 := filter_still (fun x => !idle x) _ (show allL (flat l).dropLast ≤ _ by omega)
   obtain ⟨k2, _⟩ := flat_still l (by omega)
   rw [e1, ← hfl, k1, ← he, k2]
theorem lets_still (last : Trm) : ∀ (vs : List Int) (l : List Trm), vs.length + 1 = l.length → neatL l = true → allL (l.take vs.length) ≤ allL (lets last vs l).2.2 → lets last vs l = ([], vs, l.take vs.length)
 | [], l, _, _, _ => by unfold lets; rfl
 | v :: vs, [], h, _, _ => by simp at h
 | v :: vs, x :: l, h, hn, hs => by
  simp only [neatL, Bool.and_eq_true] at hn
  simp only [List.length_cons] at h
  obtain ⟨_, h2, _⟩ := lets_small last vs l hn.2
  have hx := all_pos x
  rw [List.length_cons, List.take_succ_cons, allL] at hs
  have e0 : lets last (v :: vs) (x :: l) = if light x then ((v, x) :: (lets last vs l).1, (lets last vs l).2) else if !idle x || named v last then ((lets last vs l).1, v :: (lets last vs l).2.1, x :: (lets last vs l).2.2) else lets last vs l := by
   conv => lhs; unfold lets
  rw [e0] at hs ⊢
  by_cases hl : light x = true
  ·rw [if_pos hl] at hs
   replace hs : x.all + allL (l.take vs.length) ≤ allL (lets last vs l).2.2 := hs
   omega
  ·rw [if_neg hl] at hs ⊢
   by_cases hi : (!idle x || named v last) = true
   ·rw [if_pos hi] at hs ⊢
    replace hs : x.all + allL (l.take vs.length) ≤ allL (x :: (lets last vs l).2.2) := hs
    rw [allL] at hs
    rw [lets_still last vs l (by omega) hn.2 (by omega)]
    rw [List.length_cons, List.take_succ_cons]
   ·rw [if_neg hi] at hs
    omega
theorem letT_still {vars : List Int} {l : List Trm} (h : neatL l = true) (hc : l.length = vars.length + 1) (hs : 1 + allL l ≤ (letT vars l).all) : letT vars l = mk 8 0 vars l := by
 cases hl : l[vars.length]? with
 | none => rw [List.getElem?_eq_none_iff] at hl; omega
 | some last =>
  have hml := List.mem_of_getElem? hl
  have hnl := neatL_iff.1 h last hml
  obtain ⟨h1, h2, h3⟩ := lets_small last vars l h
  obtain ⟨p1, p2⟩ := put_one h1.rev last hnl
  have hspl : l = l.take vars.length ++ [last] := by
   have e : l.drop vars.length = [last] := by
    rw [List.drop_eq_getElem_cons (by omega)]
    have : l[vars.length]'(by omega) = last := by
     have := List.getElem?_eq_getElem (l := l) (i := vars.length) (by omega)
     rw [hl] at this
     exact (Option.some.inj this).symm
    rw [this, List.drop_eq_nil_of_le (by omega)]
   conv => lhs; rw [← List.take_append_drop vars.length l, e]
  have ha : allL l = allL (l.take vars.length) + last.all := by
   conv => lhs; rw [hspl]
   rw [allL_app, allL, allL]; omega
  have e1 : letT vars l = if (lets last vars l).2.1.isEmpty = true then put (lets last vars l).1.reverse last else mk 8 0 (lets last vars l).2.1 ((lets last vars l).2.2 ++ [put (lets last vars l).1.reverse last]) := by unfold letT; rw [hl]
  rw [e1] at hs ⊢
  by_cases he : (lets last vars l).2.1.isEmpty = true
  ·rw [if_pos he, p1] at hs
   omega
  ·rw [if_neg he, Trm.all, allL_app, allL, allL, p1] at hs
   have hst := lets_still last vars l (by omega) h (by omega)
   rw [if_neg he, hst, List.reverse_nil, put_nil, ← hspl]
theorem post_still {op n : Int} {v : List Int} {t : List Trm} {cs : List Dat} (h : neatL t = true) (hm : calm F (mk op n v t) = true) (hc : cnt (mk op n v t) = true) (hs : 1 + allL t ≤ (post F op n v t cs).1.all) : post F op n v t cs = (mk op n v t, cs) := by
 simp only [calm, Bool.and_eq_true] at hm
 obtain ⟨m1, m2, m3, m4⟩ := hm
 simp only [cnt, Bool.and_eq_true] at hc
 unfold post at hs ⊢
 by_cases ho : op = 5
 ·rw [if_pos ho] at hs ⊢
  cases t with
  | nil => rfl
  | cons hd r =>
   have hp := all_pos hd
   rw [allL] at hs
   simp only [] at hs ⊢
   simp only [neatL, Bool.and_eq_true] at h
   split
   ·rename_i h11
    rw [if_pos h11] at hs
    have := (prim_small F hd.n r cs h.2).1
    omega
   ·rename_i h11
    rw [if_neg h11] at hs
    split
    ·rename_i h4
     rw [if_pos h4] at hs
     split
     ·rename_i b hb
      rw [hb] at hs
      have hba : hd.all = 1 + (b.all + 0) := by
       obtain ⟨o, n', v', t'⟩ := hd
       replace hb : t' = [b] := hb
       subst hb
       rfl
      have hbn := neat_parts h.1 b (by rw [hb]; simp)
      obtain ⟨c, _⟩ := letT_small hd.v (r ++ [b]) (by rw [neatL_app, h.2, neatL, hbn]; rfl)
      rw [allL_app, allL, allL] at c
      simp only [] at hs
      omega
     ·rfl
    ·rfl
 rw [if_neg ho] at hs ⊢
 by_cases ho : op = 3
 ·rw [if_pos ho] at hs ⊢
  split
  ·rename_i a b c
   simp only [allL] at hs
   have := all_pos a
   have := all_pos b
   have := all_pos c
   split
   ·rename_i h0
    rw [if_pos h0] at hs
    split
    ·rename_i d hd
     rw [hd] at hs
     simp only [] at hs
     split
     ·rename_i hk
      rw [if_pos hk] at hs
      simp only [] at hs
      omega
     ·rename_i hk
      rw [if_neg hk] at hs
      simp only [] at hs
      omega
    ·rfl
   ·rename_i h0
    rw [if_neg h0] at hs
    split
    ·rename_i h1
     rw [if_pos h1] at hs
     simp only [] at hs
     omega
    ·rfl
  ·rfl
 rw [if_neg ho] at hs ⊢
 by_cases ho : op = 10
 ·rw [if_pos ho] at hs ⊢
  subst ho
  rw [show v = [] by simpa using hc.2.1]
  refine prim_still (fun e => ?_) hs
  subst e
  simpa using m1
 rw [if_neg ho] at hs ⊢
 by_cases ho : op = 6
 ·rw [if_pos ho] at hs ⊢
  subst ho
  have : n = 0 ∧ v = [] := by simpa using m2
  obtain ⟨rfl, rfl⟩ := this
  rw [seq_still hs]
 rw [if_neg ho] at hs ⊢
 by_cases ho : op = 8
 ·rw [if_pos ho] at hs ⊢
  subst ho
  have e : n = 0 := by simpa using m3
  subst e
  rw [letT_still h (by simpa using hc.1) hs]
 rw [if_neg ho] at hs ⊢
 by_cases ho : op = 9
 ·rw [if_pos ho] at hs ⊢
  split
  ·rename_i last hl
   rw [hl] at hs
   simp only [] at hs
   split
   ·rfl
   ·rename_i hx
    rw [if_neg hx] at hs
    have := allL_mem (List.mem_of_getElem? hl)
    simp only [] at hs
    omega
  ·rfl
 rw [if_neg ho] at hs ⊢
 by_cases ho : op = 12
 ·rw [if_pos ho] at hs ⊢
  split
  ·rename_i a
   simp only [] at hs
   split
   ·rename_i hx
    rw [if_pos hx] at hs
    simp only [allL] at hs
    omega
   ·rfl
  ·rfl
 rw [if_neg ho]
theorem term_still : ∀ (x : Trm) (cs : List Dat), neat x = true → calm F x = true → cnt x = true → x.all ≤ (term F x cs).1.all → term F x cs = (x, cs) := by
 intro x
 induction x using Trm.ind with
 | h o n v t ih =>
  intro cs hn hc hk hs
  have key : ∀ (l : List Trm) (cs : List Dat), (∀ y ∈ l, ∀ cs, y.all ≤ (term F y cs).1.all → term F y cs = (y, cs)) → (∀ y ∈ l, neat y = true) → allL l ≤ allL (termL F l cs).1 → termL F l cs = (l, cs) := fun l => by
   induction l with
   | nil => intro cs _ _ _; rfl
   | cons y l ihl =>
    intro cs hy hne hle
    have hsm : ∀ (l : List Trm) (cs : List Dat), (∀ y ∈ l, neat y = true) → allL (termL F l cs).1 ≤ allL l := fun l => by
     induction l with
     | nil => intro cs _; exact Nat.le_refl _
     | cons y l ihl =>
      intro cs h
      rw [termL, allL, allL]
      have := (term_small F y cs (h y (by simp))).1
      have := ihl (term F y cs).2 fun z hz => h z (List.mem_cons_of_mem _ hz)
      omega
    have a1 := (term_small F y cs (hne y (by simp))).1
    have a2 := hsm l (term F y cs).2 fun z hz => hne z (List.mem_cons_of_mem _ hz)
    rw [termL, allL, allL] at hle
    replace hle : y.all + allL l ≤ (term F y cs).1.all + allL (termL F l (term F y cs).2).1 := hle
    have e1 := hy y (by simp) cs (by omega)
    rw [e1] at hle a2
    have e2 := ihl cs (fun z hz => hy z (List.mem_cons_of_mem _ hz)) (fun z hz => hne z (List.mem_cons_of_mem _ hz)) (by simp only [] at hle; omega)
    rw [termL, e1, e2]
  have hnp := neat_parts hn
  have hsm : allL (termL F t cs).1 ≤ allL t ∧ neatL (termL F t cs).1 = true := by
   have : ∀ (l : List Trm) (cs : List Dat), (∀ y ∈ l, neat y = true) → allL (termL F l cs).1 ≤ allL l ∧ neatL (termL F l cs).1 = true := fun l => by
    induction l with
    | nil => intro cs _; exact ⟨Nat.le_refl _, rfl⟩
    | cons y l ihl =>
     intro cs h
     rw [termL, allL, allL, neatL]
     obtain ⟨b1, b2⟩ := term_small F y cs (h y (by simp))
     obtain ⟨b3, b4⟩ := ihl (term F y cs).2 fun z hz => h z (List.mem_cons_of_mem _ hz)
     exact ⟨by omega, by rw [b2, b4]; rfl⟩
   exact this t cs hnp
  have hm' : neat (mk o n v (termL F t cs).1) = true := by
   simp only [neat, Bool.and_eq_true] at hn ⊢
   refine ⟨?_, hsm.2⟩
   have : (termL F t cs).1.isEmpty = t.isEmpty := by
    have := termL_len F t cs
    cases t with
    | nil => rfl
    | cons _ _ => cases h : (termL F (_ :: _) cs).1 with
     | nil => rw [h] at this; cases this
     | cons _ _ => rfl
   rw [this]; exact hn.1
  have hp := (post_small F o n v _ (termL F t cs).2 hsm.2 hm').1
  rw [term, Trm.all] at hs
  have e := key t cs (fun y hy cs h => ih y hy cs (hnp y hy) (calm_parts hc y hy) (cnt_parts hk y hy) h) hnp (by omega)
  rw [term, e]
  rw [e] at hs
  exact post_still (neatL_iff.2 hnp) hc hk hs
end Fd
end
end Go.Proofs.YtgbibibmpoekiaaGreatDoor

/-
  What the proofs lean on: BoxL, Cont, Walks2, Trm.
-/
import Derived.Deep.LoopGhost
import Derived.OwnWalk
import Derived.IntWalk
import Derived.Laws.OwnMore
import Derived.BigRegion
import Derived.Test.YtigkhmppnnljiaaGreatDoorPreA01
import Derived.Test.YtigkhmppnnljiaaGreatDoorPreA07
import Derived.Test.YtigkhmppnnljiaaGreatDoorPreA09
import Derived.Test.YtigkhmppnnljiaaGreatDoorPreA10
set_option maxRecDepth 100000
set_option maxHeartbeats 16000000
namespace Go.Proofs.YtigkhmppnnljiaaGreatDoor
section
open Go.RowKit
def BoxL (W : World) (b : Nat) (t : TypeId) (cs : List Value) : Prop := W.heap[b]? = some (.cells cs.toArray t (0, 0))
theorem BoxL.new {W : World} {b : Nat} (h : b = W.heap.size) (t : TypeId) (cs : List Value) : BoxL (W.alloc (.cells cs.toArray t)) b t cs := by
 subst h; exact World.alloc_heap_new W _
theorem BoxL.lt {W : World} {b : Nat} {t : TypeId} {cs : List Value} (h : BoxL W b t cs) : b < W.heap.size := (Array.getElem?_eq_some_iff.1 h).1
theorem BoxL.keep {W W' : World} {b : Nat} {t : TypeId} {cs : List Value} (h : BoxL W b t cs) (hb : Below W.heap.size W W') : BoxL W' b t cs := (hb.block _ h.lt).trans h
theorem BoxL.alloc {W : World} {b : Nat} {t : TypeId} {cs : List Value} (h : BoxL W b t cs) (o : Obj) : BoxL (W.alloc o) b t cs := h.keep ((Below.refl _ _).alloc (Nat.le_refl _) _)
theorem BoxL.other {W : World} {b : Nat} {t : TypeId} {cs : List Value} (h : BoxL W b t cs) (a : Addr) (v : Value) (hne : b ≠ a.block) : BoxL (W.setCell a v) b t cs := (setCell_heap_other W a v hne).trans h
theorem BoxL.cell {W : World} {b : Nat} {t : TypeId} {cs : List Value} (h : BoxL W b t cs) (i : Nat) {v : Value} (hv : cs[i]? = some v) : W.cell? ⟨b, i, none⟩ = some v := by
 unfold World.cell?
 simp only [show W.heap[b]? = _ from h]
 simpa using hv
theorem BoxL.free {W : World} {b : Nat} {t : TypeId} {cs : List Value} (h : BoxL W b t cs) (i : Nat) : W.frozen? ⟨b, i, none⟩ = false := by
 unfold World.frozen?
 simp [show W.heap[b]? = _ from h]
theorem BoxL.set {W : World} {b : Nat} {t : TypeId} {cs : List Value} (h : BoxL W b t cs) (i : Nat) (v : Value) : BoxL (W.setCell ⟨b, i, none⟩ v) b t (cs.set i v) := by
 simp only [BoxL, World.setCell, Array.getElem?_modify, ↓reduceIte]
 rw [show W.heap[b]? = _ from h]
 simp
theorem keepC {W W' : World} (hb : Below W.heap.size W W') {b o : Nat} {v : Value} (h : W.cell? ⟨b, o, none⟩ = some v) : W'.cell? ⟨b, o, none⟩ = some v := (hb.cell (p := ⟨b, o, none⟩) (cell_lt h)).trans h
theorem Below.one (W : World) (o : Obj) : Below W.heap.size W (W.alloc o) := (Below.refl _ _).alloc (Nat.le_refl _) _
theorem SlC.lens {α : Type} {w : World} {B size : Nat} {R : α → List Value → Prop} {l : List α} {o : Option Addr} {len cap : Nat} (h : SlC w B size R l (.slice o len cap)) : len = l.length ∧ len ≤ cap ∧ cap ≤ 9223372036854775807 := by
 obtain ⟨o', l', c', he, h1, h2, h3, _⟩ := h
 simp only [Value.slice.injEq] at he
 obtain ⟨_, rfl, rfl⟩ := he
 exact ⟨h1, h2, h3⟩
theorem SlC.form {α : Type} {w : World} {B size : Nat} {R : α → List Value → Prop} {l : List α} {v : Value} (h : SlC w B size R l v) : ∃ o len cap, v = .slice o len cap := by
 obtain ⟨o, len, cap, h, _⟩ := h
 exact ⟨o, len, cap, h⟩
theorem three_boxes {w w1 : World} {A B C : List Value} {t u v : TypeId} (hb : Below (((w.alloc (.cells A.toArray t)).alloc (.cells B.toArray u)).alloc (.cells C.toArray v)).heap.size (((w.alloc (.cells A.toArray t)).alloc (.cells B.toArray u)).alloc (.cells C.toArray v)) w1) :
  BoxL w1 w.heap.size t A ∧ BoxL w1 (w.heap.size + 1) u B ∧ BoxL w1 (w.heap.size + 1 + 1) v C ∧ Below w.heap.size w w1 :=
 ⟨(((BoxL.new rfl t A).alloc _).alloc _).keep hb, ((BoxL.new (by simp) u B).alloc _).keep hb, (BoxL.new (by simp) v C).keep hb, ((((Below.refl _ _).alloc (Nat.le_refl _) _).alloc (by simp) _).alloc (by simp; omega) _).trans (hb.mono (by simp; omega))⟩
end
section
open Go.RowKit
theorem anyG_take_succ {α : Type} {p : α → Bool} {l : List α} {j : Nat} {x : α} (hx : l[j]? = some x) (h : (l.take j).any p = false) (hp : p x = false) : (l.take (j + 1)).any p = false := by
 rw [List.take_add_one, hx]
 simp [h, hp]
theorem anyG_true {α : Type} {p : α → Bool} {l : List α} {j : Nat} {x : α} (hx : l[j]? = some x) (hp : p x = true) : l.any p = true :=
 List.any_eq_true.2 ⟨x, List.mem_of_getElem? hx, hp⟩
theorem indexG_int {α : Type} (R : α → List Value → Prop) (F : FuncId) (caps : Array Value) (p : α → Bool) (l : List α) (sl : Value) (B : Nat) (w : World) (hv : SlC w B 1 R l sl) (hB : B ≤ w.heap.size)
  (hF : ∀ (args : Array Value) (w : World), (callFunc F args).run Tryz.prog w = .ok (.enter F args) w)
  (H : ∀ x ∈ l, ∀ c0 w', R x [c0] → Below w.heap.size w w' → Calls Tryz.prog F (#[c0] ++ caps) w' fun e w'' => e = .returned (.bool (p x)) ∧ Below w'.heap.size w' w'') :
  Calls Tryz.prog 95 #[sl, .func (.func F) #[] caps] w (IdxPost (l.any p) w) := by
 obtain ⟨r, hr⟩ : ∃ r, l.any p = r := ⟨_, rfl⟩
 rw [hr]
 obtain ⟨o, len, cap, rfl, hl, hcap, hmax⟩ := hv.slice
 have HR := Lib.hid hr
 have HV := Lib.hid hv
 have HL := Lib.hid hl
 have HH := Lib.hid H
 clear hr hv hl H
 go_enter Tryz.func95, Tryz.ntmps95
 go_wp2
 go_loopw [8] (fun i wr => ∃ (j : Nat), i = .int .i64 j ∧ j ≤ len ∧ Hid ((l.take j).any p = false) ∧ Below w.heap.size w wr) (fun i _ => len - (intOf i).toNat)
 case atStart => exact ⟨0, rfl, by omega, rfl, Below.refl _ _⟩
 case round =>
  obtain ⟨j, rfl, hj, HA, hb⟩ := hrel
  by_cases hjl : j < len
  ·obtain ⟨x, hx⟩ : ∃ x, l[j]? = some x := ⟨_, List.getElem?_eq_getElem (by rw [← HL.out]; exact hjl)⟩
   obtain ⟨b, off, cs, ho, _, hcl, hcell, hr⟩ := HV.out.at (hb.mono hB) hx
   subst ho
   match cs, hcl with
   | [c0], _ =>
    have e0 := hcell 0 _ rfl
    simp only [Nat.add_zero, Nat.mul_one] at e0
    have HC := Lib.hid (HH.out _ (List.mem_of_getElem? hx) _ wr hr hb)
    have HX := Lib.hid hx
    clear hx hr hcell
    cases hp : p x with
    | true =>
     rw [hp] at HC
     have HT := Lib.hid (anyG_true HX.out hp)
     clear hp
     go_wp2_with (first | ((with_reducible refine HC.out.mono ?_); rintro e' w1 ⟨rfl, hb1⟩))
     go_ret
     exact ⟨j, rfl, by rw [← HR.out, HT.out]; simp, Below.next hb hb1⟩
    | false =>
     rw [hp] at HC
     have HT := Lib.hid (anyG_take_succ HX.out HA.out hp)
     clear hp
     go_wp2_with (first | ((with_reducible refine HC.out.mono ?_); rintro e' w1 ⟨rfl, hb1⟩))
     go_roundw
     case rel => exact ⟨j + 1, by go_num, by omega, HT, Below.next hb hb1⟩
     case measure => simp [intOf]; omega
  ·have HF := Lib.hid (show l.any p = false by rw [← HA.out, List.take_of_length_le (by rw [← HL.out]; omega)])
   go_wp2
   go_ret
   exact ⟨-1, rfl, by rw [← HR.out, HF.out]; rfl, hb⟩
theorem containsG_int {α : Type} (R : α → List Value → Prop) (F : FuncId) (caps : Array Value) (p : α → Bool) (r : Bool) (l : List α) (sl : Value) (B : Nat) (w : World) (hv : SlC w B 1 R l sl) (hB : B ≤ w.heap.size)
  (hF : ∀ (args : Array Value) (w : World), (callFunc F args).run Tryz.prog w = .ok (.enter F args) w)
  (H : ∀ x ∈ l, ∀ c0 w', R x [c0] → Below w.heap.size w w' → Calls Tryz.prog F (#[c0] ++ caps) w' fun e w'' => e = .returned (.bool (p x)) ∧ Below w'.heap.size w' w'') (hr : l.any p = r) :
  Calls Tryz.prog 62 #[sl, .func (.func F) #[] caps] w fun e w' => e = .returned (.bool r) ∧ Below w.heap.size w w' := by
 have HI := Lib.hid (indexG_int R F caps p l sl B w hv hB hF H)
 rw [hr] at HI
 obtain ⟨o, len, cap, rfl, h1, h2, h3⟩ := hv.slice
 clear hr hv H hF h1 h2 h3
 go_enter Tryz.func62, Tryz.ntmps62
 go_wp2_with (first | (go_at_call 95; refine HI.out.mono ?_; rintro e' w1 ⟨q, rfl, hq, hb⟩))
 subst hq
 go_ret
 exact ⟨by simp, hb⟩
theorem indexG_ins {α : Type} (R : α → List Value → Prop) (F : FuncId) (caps : Array Value) (p : α → Bool) (l : List α) (sl : Value) (B : Nat) (w : World) (hv : SlC w B 5 R l sl) (hB : B ≤ w.heap.size)
  (hF : ∀ (args : Array Value) (w : World), (callFunc F args).run Tryz.prog w = .ok (.enter F args) w)
  (H : ∀ x ∈ l, ∀ c0 c1 c2 c3 c4 w', R x [c0, c1, c2, c3, c4] → Below w.heap.size w w' → Calls Tryz.prog F (#[.agg #[c0, c1, c2, c3, c4]] ++ caps) w' fun e w'' => e = .returned (.bool (p x)) ∧ Below w'.heap.size w' w'') :
  Calls Tryz.prog 58 #[sl, .func (.func F) #[] caps] w (IdxPost (l.any p) w) := by
 obtain ⟨r, hr⟩ : ∃ r, l.any p = r := ⟨_, rfl⟩
 rw [hr]
 obtain ⟨o, len, cap, rfl, hl, hcap, hmax⟩ := hv.slice
 have HR := Lib.hid hr
 have HV := Lib.hid hv
 have HL := Lib.hid hl
 have HH := Lib.hid H
 clear hr hv hl H
 go_enter Tryz.func58, Tryz.ntmps58
 go_wp2
 go_loopw [8] (fun i wr => ∃ (j : Nat), i = .int .i64 j ∧ j ≤ len ∧ Hid ((l.take j).any p = false) ∧ Below w.heap.size w wr) (fun i _ => len - (intOf i).toNat)
 case atStart => exact ⟨0, rfl, by omega, rfl, Below.refl _ _⟩
 case round =>
  obtain ⟨j, rfl, hj, HA, hb⟩ := hrel
  by_cases hjl : j < len
  ·obtain ⟨x, hx⟩ : ∃ x, l[j]? = some x := ⟨_, List.getElem?_eq_getElem (by rw [← HL.out]; exact hjl)⟩
   obtain ⟨b, off, cs, ho, _, hcl, hcell, hr⟩ := HV.out.at (hb.mono hB) hx
   subst ho
   match cs, hcl with
   | [c0, c1, c2, c3, c4], _ =>
    have e0 := hcell 0 _ rfl
    have e1 := hcell 1 _ rfl
    have e2 := hcell 2 _ rfl
    have e3 := hcell 3 _ rfl
    have e4 := hcell 4 _ rfl
    simp only [Nat.add_zero] at e0
    have HC := Lib.hid (HH.out _ (List.mem_of_getElem? hx) _ _ _ _ _ wr hr hb)
    have HX := Lib.hid hx
    clear hx hr hcell
    cases hp : p x with
    | true =>
     rw [hp] at HC
     have HT := Lib.hid (anyG_true HX.out hp)
     clear hp
     go_wp2_with (first | ((with_reducible refine HC.out.mono ?_); rintro e' w1 ⟨rfl, hb1⟩))
     go_ret
     exact ⟨j, rfl, by rw [← HR.out, HT.out]; simp, Below.next hb hb1⟩
    | false =>
     rw [hp] at HC
     have HT := Lib.hid (anyG_take_succ HX.out HA.out hp)
     clear hp
     go_wp2_with (first | ((with_reducible refine HC.out.mono ?_); rintro e' w1 ⟨rfl, hb1⟩))
     go_roundw
     case rel => exact ⟨j + 1, by go_num, by omega, HT, Below.next hb hb1⟩
     case measure => simp [intOf]; omega
  ·have HF := Lib.hid (show l.any p = false by rw [← HA.out, List.take_of_length_le (by rw [← HL.out]; omega)])
   go_wp2
   go_ret
   exact ⟨-1, rfl, by rw [← HR.out, HF.out]; rfl, hb⟩
theorem containsG_ins {α : Type} (R : α → List Value → Prop) (F : FuncId) (caps : Array Value) (p : α → Bool) (r : Bool) (l : List α) (sl : Value) (B : Nat) (w : World) (hv : SlC w B 5 R l sl) (hB : B ≤ w.heap.size)
  (hF : ∀ (args : Array Value) (w : World), (callFunc F args).run Tryz.prog w = .ok (.enter F args) w)
  (H : ∀ x ∈ l, ∀ c0 c1 c2 c3 c4 w', R x [c0, c1, c2, c3, c4] → Below w.heap.size w w' → Calls Tryz.prog F (#[.agg #[c0, c1, c2, c3, c4]] ++ caps) w' fun e w'' => e = .returned (.bool (p x)) ∧ Below w'.heap.size w' w'') (hr : l.any p = r) :
  Calls Tryz.prog 32 #[sl, .func (.func F) #[] caps] w fun e w' => e = .returned (.bool r) ∧ Below w.heap.size w w' := by
 have HI := Lib.hid (indexG_ins R F caps p l sl B w hv hB hF H)
 rw [hr] at HI
 obtain ⟨o, len, cap, rfl, h1, h2, h3⟩ := hv.slice
 clear hr hv H hF h1 h2 h3
 go_enter Tryz.func32, Tryz.ntmps32
 go_wp2_with (first | (go_at_call 58; refine HI.out.mono ?_; rintro e' w1 ⟨q, rfl, hq, hb⟩))
 subst hq
 go_ret
 exact ⟨by simp, hb⟩
theorem indexG_proc {α : Type} (R : α → List Value → Prop) (F : FuncId) (caps : Array Value) (p : α → Bool) (l : List α) (sl : Value) (B : Nat) (w : World) (hv : SlC w B 5 R l sl) (hB : B ≤ w.heap.size)
  (hF : ∀ (args : Array Value) (w : World), (callFunc F args).run Tryz.prog w = .ok (.enter F args) w)
  (H : ∀ x ∈ l, ∀ c0 c1 c2 c3 c4 w', R x [c0, c1, c2, c3, c4] → Below w.heap.size w w' → Calls Tryz.prog F (#[.agg #[c0, c1, c2, c3, c4]] ++ caps) w' fun e w'' => e = .returned (.bool (p x)) ∧ Below w'.heap.size w' w'') :
  Calls Tryz.prog 83 #[sl, .func (.func F) #[] caps] w (IdxPost (l.any p) w) := by
 obtain ⟨r, hr⟩ : ∃ r, l.any p = r := ⟨_, rfl⟩
 rw [hr]
 obtain ⟨o, len, cap, rfl, hl, hcap, hmax⟩ := hv.slice
 have HR := Lib.hid hr
 have HV := Lib.hid hv
 have HL := Lib.hid hl
 have HH := Lib.hid H
 clear hr hv hl H
 go_enter Tryz.func83, Tryz.ntmps83
 go_wp2
 go_loopw [8] (fun i wr => ∃ (j : Nat), i = .int .i64 j ∧ j ≤ len ∧ Hid ((l.take j).any p = false) ∧ Below w.heap.size w wr) (fun i _ => len - (intOf i).toNat)
 case atStart => exact ⟨0, rfl, by omega, rfl, Below.refl _ _⟩
 case round =>
  obtain ⟨j, rfl, hj, HA, hb⟩ := hrel
  by_cases hjl : j < len
  ·obtain ⟨x, hx⟩ : ∃ x, l[j]? = some x := ⟨_, List.getElem?_eq_getElem (by rw [← HL.out]; exact hjl)⟩
   obtain ⟨b, off, cs, ho, _, hcl, hcell, hr⟩ := HV.out.at (hb.mono hB) hx
   subst ho
   match cs, hcl with
   | [c0, c1, c2, c3, c4], _ =>
    have e0 := hcell 0 _ rfl
    have e1 := hcell 1 _ rfl
    have e2 := hcell 2 _ rfl
    have e3 := hcell 3 _ rfl
    have e4 := hcell 4 _ rfl
    simp only [Nat.add_zero] at e0
    have HC := Lib.hid (HH.out _ (List.mem_of_getElem? hx) _ _ _ _ _ wr hr hb)
    have HX := Lib.hid hx
    clear hx hr hcell
    cases hp : p x with
    | true =>
     rw [hp] at HC
     have HT := Lib.hid (anyG_true HX.out hp)
     clear hp
     go_wp2_with (first | ((with_reducible refine HC.out.mono ?_); rintro e' w1 ⟨rfl, hb1⟩))
     go_ret
     exact ⟨j, rfl, by rw [← HR.out, HT.out]; simp, Below.next hb hb1⟩
    | false =>
     rw [hp] at HC
     have HT := Lib.hid (anyG_take_succ HX.out HA.out hp)
     clear hp
     go_wp2_with (first | ((with_reducible refine HC.out.mono ?_); rintro e' w1 ⟨rfl, hb1⟩))
     go_roundw
     case rel => exact ⟨j + 1, by go_num, by omega, HT, Below.next hb hb1⟩
     case measure => simp [intOf]; omega
  ·have HF := Lib.hid (show l.any p = false by rw [← HA.out, List.take_of_length_le (by rw [← HL.out]; omega)])
   go_wp2
   go_ret
   exact ⟨-1, rfl, by rw [← HR.out, HF.out]; rfl, hb⟩
theorem containsG_proc {α : Type} (R : α → List Value → Prop) (F : FuncId) (caps : Array Value) (p : α → Bool) (r : Bool) (l : List α) (sl : Value) (B : Nat) (w : World) (hv : SlC w B 5 R l sl) (hB : B ≤ w.heap.size)
  (hF : ∀ (args : Array Value) (w : World), (callFunc F args).run Tryz.prog w = .ok (.enter F args) w)
  (H : ∀ x ∈ l, ∀ c0 c1 c2 c3 c4 w', R x [c0, c1, c2, c3, c4] → Below w.heap.size w w' → Calls Tryz.prog F (#[.agg #[c0, c1, c2, c3, c4]] ++ caps) w' fun e w'' => e = .returned (.bool (p x)) ∧ Below w'.heap.size w' w'') (hr : l.any p = r) :
  Calls Tryz.prog 51 #[sl, .func (.func F) #[] caps] w fun e w' => e = .returned (.bool r) ∧ Below w.heap.size w w' := by
 have HI := Lib.hid (indexG_proc R F caps p l sl B w hv hB hF H)
 rw [hr] at HI
 obtain ⟨o, len, cap, rfl, h1, h2, h3⟩ := hv.slice
 clear hr hv H hF h1 h2 h3
 go_enter Tryz.func51, Tryz.ntmps51
 go_wp2_with (first | (go_at_call 83; refine HI.out.mono ?_; rintro e' w1 ⟨q, rfl, hq, hb⟩))
 subst hq
 go_ret
 exact ⟨by simp, hb⟩
end
section
open Go.RowKit
end
section
open Go.RowKit
end
section
open Go.RowKit
def Five (w : World) (b : Nat) (v0 v1 v2 v3 v4 : Value) : Prop :=
 w.cell? ⟨b, 0, none⟩ = some v0 ∧ w.cell? ⟨b, 1, none⟩ = some v1 ∧ w.cell? ⟨b, 2, none⟩ = some v2 ∧ w.cell? ⟨b, 3, none⟩ = some v3 ∧ w.cell? ⟨b, 4, none⟩ = some v4
end
section
open Go Go.RowKit
inductive Trm where
 | mk (op n : Int) (v : List Int) (t : List Trm)
namespace Trm
def op : Trm → Int | mk o _ _ _ => o
def n : Trm → Int | mk _ n _ _ => n
def v : Trm → List Int | mk _ _ v _ => v
def t : Trm → List Trm | mk _ _ _ t => t
theorem ind {P : Trm → Prop} (h : ∀ o n v t, (∀ x ∈ t, P x) → P (mk o n v t)) (x : Trm) : P x :=
 Trm.rec (motive_1 := P) (motive_2 := fun l => ∀ x ∈ l, P x) (fun o n v t ih => h o n v t ih) (fun _ hx => by cases hx) (fun x l hx hl y hy => by
  rcases List.mem_cons.1 hy with rfl | hy
  ·exact hx
  ·exact hl y hy) x
mutual
def all : Trm → Nat
 | mk _ _ _ t => 1 + allL t
def allL : List Trm → Nat
 | [] => 0
 | x :: l => all x + allL l
end
theorem allL_mem : ∀ {l : List Trm} {x : Trm}, x ∈ l → x.all ≤ allL l
 | y :: l, x, h => by
  rw [allL]
  rcases List.mem_cons.1 h with rfl | h
  ·omega
  ·have := allL_mem h
   omega
theorem all_mem {o n : Int} {v : List Int} {t : List Trm} {x : Trm} (h : x ∈ t) : x.all < (mk o n v t).all := by
 have := allL_mem h
 rw [all]
 omega
end Trm
mutual
def TrmR (w : World) (B : Nat) : Trm → List Value → Prop
 | .mk o n v t, cs => ∃ vs q len cap, cs = [.int .i64 o, .int .i64 n, vs, .slice q len cap] ∧ (-9223372036854775808 ≤ o ∧ o ≤ 9223372036854775807) ∧ (-9223372036854775808 ≤ n ∧ n ≤ 9223372036854775807) ∧ SlC w B 1 IntR v vs ∧
   len = t.length ∧ len ≤ cap ∧ cap ≤ 9223372036854775807 ∧ (match q with | none => t = [] ∧ cap = 0 | some a => (t ≠ [] → a.spot = none ∧ a.block < B) ∧ TrmC w B t a.block a.off)
def TrmC (w : World) (B : Nat) : List Trm → Nat → Nat → Prop
 | [], _, _ => True
 | x :: l, b, off => (∃ cs : List Value, cs.length = 4 ∧ (∀ j u, cs[j]? = some u → w.cell? ⟨b, off + j, none⟩ = some u) ∧ TrmR w B x cs) ∧ TrmC w B l b (off + 4)
end
theorem trmC_iff {w : World} {B b : Nat} : ∀ {l : List Trm} {off : Nat}, TrmC w B l b off ↔ ∀ (i : Nat) (x : Trm), l[i]? = some x → ∃ cs : List Value, cs.length = 4 ∧ (∀ j u, cs[j]? = some u → w.cell? ⟨b, off + i * 4 + j, none⟩ = some u) ∧ TrmR w B x cs
 | [], off => by simp [TrmC]
 | y :: l, off => by
  rw [TrmC, trmC_iff (l := l) (off := off + 4)]
  constructor
  ·rintro ⟨h1, h2⟩ i x hx
   cases i with
   | zero =>
    simp only [List.getElem?_cons_zero, Option.some.injEq] at hx
    subst hx
    simpa using h1
   | succ i =>
    have := h2 i x (by simpa using hx)
    rwa [show off + 4 + i * 4 = off + (i + 1) * 4 by omega] at this
  ·intro h
   refine ⟨by simpa using h 0 y rfl, fun i x hx => ?_⟩
   have := h (i + 1) x (by simpa using hx)
   rwa [show off + (i + 1) * 4 = off + 4 + i * 4 by omega] at this
theorem trmR_iff {w : World} {B : Nat} {o n : Int} {v : List Int} {t : List Trm} {cs : List Value} : TrmR w B (.mk o n v t) cs ↔ ∃ vs ts, cs = [.int .i64 o, .int .i64 n, vs, ts] ∧ (-9223372036854775808 ≤ o ∧ o ≤ 9223372036854775807) ∧ (-9223372036854775808 ≤ n ∧ n ≤ 9223372036854775807) ∧ SlC w B 1 IntR v vs ∧ SlC w B 4 (TrmR w B) t ts := by
 rw [TrmR]
 constructor
 ·rintro ⟨vs, q, len, cap, rfl, h1, h2, h3, h4, h5, h6, h7⟩
  refine ⟨vs, _, rfl, h1, h2, h3, q, len, cap, rfl, h4, h5, h6, ?_⟩
  cases q with
  | none => exact h7
  | some a => exact ⟨h7.1, trmC_iff.1 h7.2⟩
 ·rintro ⟨vs, ts, rfl, h1, h2, h3, q, len, cap, rfl, h4, h5, h6, h7⟩
  refine ⟨vs, q, len, cap, rfl, h1, h2, h3, h4, h5, h6, ?_⟩
  cases q with
  | none => exact h7
  | some a => exact ⟨h7.1, trmC_iff.2 h7.2⟩
theorem TrmR.kept {w w' : World} {B : Nat} (hb : Below B w w') : ∀ (x : Trm) (cs : List Value), TrmR w B x cs → TrmR w' B x cs := by
 intro x
 induction x using Trm.ind with
 | _ o n v t ih =>
  intro cs h
  obtain ⟨vs, ts, rfl, h1, h2, h3, h4⟩ := trmR_iff.1 h
  exact trmR_iff.2 ⟨vs, ts, rfl, h1, h2, h3.kept hb fun _ _ _ h => h, h4.kept hb fun x hx cs h => ih x hx cs h⟩
def TrmS (w : World) (B : Nat) (l : List Trm) (v : Value) : Prop := SlC w B 4 (TrmR w B) l v
theorem TrmS.kept {w w' : World} {B : Nat} {l : List Trm} {v : Value} (h : TrmS w B l v) (hb : Below B w w') : TrmS w' B l v := SlC.kept h hb fun x _ cs h => TrmR.kept hb x cs h
end
end Go.Proofs.YtigkhmppnnljiaaGreatDoor

/-
  What the proofs lean on: Trm, BoxL, Cont, Walks2, Mid.
-/
import Derived.Deep.LoopGhost
import Derived.OwnWalk
import Derived.IntWalk
import Derived.Laws.OwnMore
import Derived.BigRegion
import Derived.Test.YtigkhmppnnljiaaGreatDoorShiftA01
import Derived.Test.YtigkhmppnnljiaaGreatDoorShiftA05
import Derived.Test.YtigkhmppnnljiaaGreatDoorShiftA06
import Derived.Test.YtigkhmppnnljiaaGreatDoorShiftA07
namespace Go.Proofs.YtigkhmppnnljiaaGreatDoor
open Go Go.RowKit

/-- A term: what it is, its number, its variables, its parts. -/
inductive Trm where
  | mk (op n : Int) (v : List Int) (t : List Trm)

namespace Trm
def op : Trm → Int | mk o _ _ _ => o
def n : Trm → Int | mk _ n _ _ => n
def v : Trm → List Int | mk _ _ v _ => v
def t : Trm → List Trm | mk _ _ _ t => t
/-- By parts. -/
theorem ind {P : Trm → Prop} (h : ∀ o n v t, (∀ x ∈ t, P x) → P (mk o n v t)) (x : Trm) : P x :=
  Trm.rec (motive_1 := P) (motive_2 := fun l => ∀ x ∈ l, P x) (fun o n v t ih => h o n v t ih) (fun _ hx => by cases hx) (fun x l hx hl y hy => by
    rcases List.mem_cons.1 hy with rfl | hy
    · exact hx
    · exact hl y hy) x
mutual
/-- How many terms. -/
def all : Trm → Nat
  | mk _ _ _ t => 1 + allL t
def allL : List Trm → Nat
  | [] => 0
  | x :: l => all x + allL l
end
theorem allL_mem : ∀ {l : List Trm} {x : Trm}, x ∈ l → x.all ≤ allL l
  | y :: l, x, h => by
    rw [allL]
    rcases List.mem_cons.1 h with rfl | h
    · omega
    · have := allL_mem h
      omega
theorem all_mem {o n : Int} {v : List Int} {t : List Trm} {x : Trm} (h : x ∈ t) : x.all < (mk o n v t).all := by
  have := allL_mem h
  rw [all]
  omega
end Trm

mutual
/-- The cells of a term. -/
def TrmR (w : World) (B : Nat) : Trm → List Value → Prop
  | .mk o n v t, cs => ∃ vs q len cap, cs = [.int .i64 o, .int .i64 n, vs, .slice q len cap] ∧ (-9223372036854775808 ≤ o ∧ o ≤ 9223372036854775807) ∧ (-9223372036854775808 ≤ n ∧ n ≤ 9223372036854775807) ∧ SlC w B 1 IntR v vs ∧
      len = t.length ∧ len ≤ cap ∧ cap ≤ 9223372036854775807 ∧ (match q with | none => t = [] ∧ cap = 0 | some a => (t ≠ [] → a.spot = none ∧ a.block < B) ∧ TrmC w B t a.block a.off)
/-- The cells from an offset of a block on are the terms, four cells each. -/
def TrmC (w : World) (B : Nat) : List Trm → Nat → Nat → Prop
  | [], _, _ => True
  | x :: l, b, off => (∃ cs : List Value, cs.length = 4 ∧ (∀ j u, cs[j]? = some u → w.cell? ⟨b, off + j, none⟩ = some u) ∧ TrmR w B x cs) ∧ TrmC w B l b (off + 4)
end
theorem trmC_iff {w : World} {B b : Nat} : ∀ {l : List Trm} {off : Nat}, TrmC w B l b off ↔ ∀ (i : Nat) (x : Trm), l[i]? = some x → ∃ cs : List Value, cs.length = 4 ∧ (∀ j u, cs[j]? = some u → w.cell? ⟨b, off + i * 4 + j, none⟩ = some u) ∧ TrmR w B x cs
  | [], off => by simp [TrmC]
  | y :: l, off => by
    rw [TrmC, trmC_iff (l := l) (off := off + 4)]
    constructor
    · rintro ⟨h1, h2⟩ i x hx
      cases i with
      | zero =>
        simp only [List.getElem?_cons_zero, Option.some.injEq] at hx
        subst hx
        simpa using h1
      | succ i =>
        have := h2 i x (by simpa using hx)
        rwa [show off + 4 + i * 4 = off + (i + 1) * 4 by omega] at this
    · intro h
      refine ⟨by simpa using h 0 y rfl, fun i x hx => ?_⟩
      have := h (i + 1) x (by simpa using hx)
      rwa [show off + (i + 1) * 4 = off + 4 + i * 4 by omega] at this
/-- A term's cells: numbers, a slice of ints, a slice of terms. -/
theorem trmR_iff {w : World} {B : Nat} {o n : Int} {v : List Int} {t : List Trm} {cs : List Value} : TrmR w B (.mk o n v t) cs ↔ ∃ vs ts, cs = [.int .i64 o, .int .i64 n, vs, ts] ∧ (-9223372036854775808 ≤ o ∧ o ≤ 9223372036854775807) ∧ (-9223372036854775808 ≤ n ∧ n ≤ 9223372036854775807) ∧ SlC w B 1 IntR v vs ∧ SlC w B 4 (TrmR w B) t ts := by
  rw [TrmR]
  constructor
  · rintro ⟨vs, q, len, cap, rfl, h1, h2, h3, h4, h5, h6, h7⟩
    refine ⟨vs, _, rfl, h1, h2, h3, q, len, cap, rfl, h4, h5, h6, ?_⟩
    cases q with
    | none => exact h7
    | some a => exact ⟨h7.1, trmC_iff.1 h7.2⟩
  · rintro ⟨vs, ts, rfl, h1, h2, h3, q, len, cap, rfl, h4, h5, h6, h7⟩
    refine ⟨vs, q, len, cap, rfl, h1, h2, h3, h4, h5, h6, ?_⟩
    cases q with
    | none => exact h7
    | some a => exact ⟨h7.1, trmC_iff.2 h7.2⟩
/-- What lies below B stays as it reads. -/
theorem TrmR.kept {w w' : World} {B : Nat} (hb : Below B w w') : ∀ (x : Trm) (cs : List Value), TrmR w B x cs → TrmR w' B x cs := by
  intro x
  induction x using Trm.ind with
  | _ o n v t ih =>
    intro cs h
    obtain ⟨vs, ts, rfl, h1, h2, h3, h4⟩ := trmR_iff.1 h
    exact trmR_iff.2 ⟨vs, ts, rfl, h1, h2, h3.kept hb fun _ _ _ h => h, h4.kept hb fun x hx cs h => ih x hx cs h⟩
theorem SlC.terms {w : World} {B B' size : Nat} {l : List Trm} {R R' : Trm → List Value → Prop} {v : Value} (h : SlC w B size R l v) (hB : B ≤ B') (hR : ∀ x ∈ l, ∀ cs, R x cs → R' x cs) : SlC w B' size R' l v := by
  obtain ⟨o, len, cap, rfl, h1, h2, h3, h4⟩ := h
  refine ⟨o, len, cap, rfl, h1, h2, h3, ?_⟩
  cases o with
  | none => exact h4
  | some a =>
    refine ⟨fun hl => ⟨(h4.1 hl).1, Nat.lt_of_lt_of_le (h4.1 hl).2 hB⟩, fun i x hx => ?_⟩
    obtain ⟨cs, g1, g2, g3⟩ := h4.2 i x hx
    exact ⟨cs, g1, g2, hR x (List.mem_of_getElem? hx) cs g3⟩
/-- .. also when more blocks are counted in. -/
theorem TrmR.wider {w : World} {B B' : Nat} (hB : B ≤ B') : ∀ (x : Trm) (cs : List Value), TrmR w B x cs → TrmR w B' x cs := by
  intro x
  induction x using Trm.ind with
  | _ o n v t ih =>
    intro cs h
    obtain ⟨vs, ts, rfl, h1, h2, h3, h4⟩ := trmR_iff.1 h
    exact trmR_iff.2 ⟨vs, ts, rfl, h1, h2, h3.wider hB, h4.terms hB fun x hx cs h => ih x hx cs h⟩
/-- A slice of terms. -/
def TrmS (w : World) (B : Nat) (l : List Trm) (v : Value) : Prop := SlC w B 4 (TrmR w B) l v
theorem TrmS.kept {w w' : World} {B : Nat} {l : List Trm} {v : Value} (h : TrmS w B l v) (hb : Below B w w') : TrmS w' B l v := SlC.kept h hb fun x _ cs h => TrmR.kept hb x cs h
end Go.Proofs.YtigkhmppnnljiaaGreatDoor

namespace Go.Proofs.YtigkhmppnnljiaaGreatDoor
open Go.RowKit

/-- A block of so many cells. -/
def BoxL (W : World) (b : Nat) (t : TypeId) (cs : List Value) : Prop := W.heap[b]? = some (.cells cs.toArray t (0, 0))
theorem BoxL.new {W : World} {b : Nat} (h : b = W.heap.size) (t : TypeId) (cs : List Value) : BoxL (W.alloc (.cells cs.toArray t)) b t cs := by
  subst h; exact World.alloc_heap_new W _
theorem BoxL.lt {W : World} {b : Nat} {t : TypeId} {cs : List Value} (h : BoxL W b t cs) : b < W.heap.size := (Array.getElem?_eq_some_iff.1 h).1
theorem BoxL.keep {W W' : World} {b : Nat} {t : TypeId} {cs : List Value} (h : BoxL W b t cs) (hb : Below W.heap.size W W') : BoxL W' b t cs := (hb.block _ h.lt).trans h
theorem BoxL.alloc {W : World} {b : Nat} {t : TypeId} {cs : List Value} (h : BoxL W b t cs) (o : Obj) : BoxL (W.alloc o) b t cs := h.keep ((Below.refl _ _).alloc (Nat.le_refl _) _)
theorem BoxL.other {W : World} {b : Nat} {t : TypeId} {cs : List Value} (h : BoxL W b t cs) (a : Addr) (v : Value) (hne : b ≠ a.block) : BoxL (W.setCell a v) b t cs := (setCell_heap_other W a v hne).trans h
theorem BoxL.cell {W : World} {b : Nat} {t : TypeId} {cs : List Value} (h : BoxL W b t cs) (i : Nat) {v : Value} (hv : cs[i]? = some v) : W.cell? ⟨b, i, none⟩ = some v := by
  unfold World.cell?
  simp only [show W.heap[b]? = _ from h]
  simpa using hv
theorem BoxL.free {W : World} {b : Nat} {t : TypeId} {cs : List Value} (h : BoxL W b t cs) (i : Nat) : W.frozen? ⟨b, i, none⟩ = false := by
  unfold World.frozen?
  simp [show W.heap[b]? = _ from h]
theorem BoxL.set {W : World} {b : Nat} {t : TypeId} {cs : List Value} (h : BoxL W b t cs) (i : Nat) (v : Value) : BoxL (W.setCell ⟨b, i, none⟩ v) b t (cs.set i v) := by
  simp only [BoxL, World.setCell, Array.getElem?_modify, ↓reduceIte]
  rw [show W.heap[b]? = _ from h]
  simp
theorem keepC {W W' : World} (hb : Below W.heap.size W W') {b o : Nat} {v : Value} (h : W.cell? ⟨b, o, none⟩ = some v) : W'.cell? ⟨b, o, none⟩ = some v := (hb.cell (p := ⟨b, o, none⟩) (cell_lt h)).trans h
theorem Below.one (W : World) (o : Obj) : Below W.heap.size W (W.alloc o) := (Below.refl _ _).alloc (Nat.le_refl _) _
theorem SlC.lens {α : Type} {w : World} {B size : Nat} {R : α → List Value → Prop} {l : List α} {o : Option Addr} {len cap : Nat} (h : SlC w B size R l (.slice o len cap)) : len = l.length ∧ len ≤ cap ∧ cap ≤ 9223372036854775807 := by
  obtain ⟨o', l', c', he, h1, h2, h3, _⟩ := h
  simp only [Value.slice.injEq] at he
  obtain ⟨_, rfl, rfl⟩ := he
  exact ⟨h1, h2, h3⟩
theorem SlC.form {α : Type} {w : World} {B size : Nat} {R : α → List Value → Prop} {l : List α} {v : Value} (h : SlC w B size R l v) : ∃ o len cap, v = .slice o len cap := by
  obtain ⟨o, len, cap, h, _⟩ := h
  exact ⟨o, len, cap, h⟩
/-- Three blocks, then a call. -/
theorem three_boxes {w w1 : World} {A B C : List Value} {t u v : TypeId} (hb : Below (((w.alloc (.cells A.toArray t)).alloc (.cells B.toArray u)).alloc (.cells C.toArray v)).heap.size (((w.alloc (.cells A.toArray t)).alloc (.cells B.toArray u)).alloc (.cells C.toArray v)) w1) :
    BoxL w1 w.heap.size t A ∧ BoxL w1 (w.heap.size + 1) u B ∧ BoxL w1 (w.heap.size + 1 + 1) v C ∧ Below w.heap.size w w1 :=
  ⟨(((BoxL.new rfl t A).alloc _).alloc _).keep hb, ((BoxL.new (by simp) u B).alloc _).keep hb, (BoxL.new (by simp) v C).keep hb, ((((Below.refl _ _).alloc (Nat.le_refl _) _).alloc (by simp) _).alloc (by simp; omega) _).trans (hb.mono (by simp; omega))⟩
end Go.Proofs.YtigkhmppnnljiaaGreatDoor

namespace Go.Proofs.YtigkhmppnnljiaaGreatDoor
open Go.RowKit

theorem anyG_take_succ {α : Type} {p : α → Bool} {l : List α} {j : Nat} {x : α} (hx : l[j]? = some x) (h : (l.take j).any p = false) (hp : p x = false) : (l.take (j + 1)).any p = false := by
  rw [List.take_add_one, hx]
  simp [h, hp]
theorem anyG_true {α : Type} {p : α → Bool} {l : List α} {j : Nat} {x : α} (hx : l[j]? = some x) (hp : p x = true) : l.any p = true :=
  List.any_eq_true.2 ⟨x, List.mem_of_getElem? hx, hp⟩

set_option maxHeartbeats 1000000 in
set_option maxRecDepth 100000 in
theorem indexG_int {α : Type} (R : α → List Value → Prop) (F : FuncId) (caps : Array Value) (p : α → Bool) (l : List α) (sl : Value) (B : Nat) (w : World) (hv : SlC w B 1 R l sl) (hB : B ≤ w.heap.size)
    (hF : ∀ (args : Array Value) (w : World), (callFunc F args).run Tryz.prog w = .ok (.enter F args) w)
    (H : ∀ x ∈ l, ∀ c0 w', R x [c0] → Below w.heap.size w w' → Calls Tryz.prog F (#[c0] ++ caps) w' fun e w'' => e = .returned (.bool (p x)) ∧ Below w'.heap.size w' w'') :
    Calls Tryz.prog 95 #[sl, .func (.func F) #[] caps] w (IdxPost (l.any p) w) := by
  obtain ⟨r, hr⟩ : ∃ r, l.any p = r := ⟨_, rfl⟩
  rw [hr]
  obtain ⟨o, len, cap, rfl, hl, hcap, hmax⟩ := hv.slice
  have HR := Lib.hid hr
  have HV := Lib.hid hv
  have HL := Lib.hid hl
  have HH := Lib.hid H
  clear hr hv hl H
  go_enter Tryz.func95, Tryz.ntmps95
  go_wp2
  go_loopw [8] (fun i wr => ∃ (j : Nat), i = .int .i64 j ∧ j ≤ len ∧ Hid ((l.take j).any p = false) ∧ Below w.heap.size w wr) (fun i _ => len - (intOf i).toNat)
  case atStart => exact ⟨0, rfl, by omega, rfl, Below.refl _ _⟩
  case round =>
    obtain ⟨j, rfl, hj, HA, hb⟩ := hrel
    by_cases hjl : j < len
    · obtain ⟨x, hx⟩ : ∃ x, l[j]? = some x := ⟨_, List.getElem?_eq_getElem (by rw [← HL.out]; exact hjl)⟩
      obtain ⟨b, off, cs, ho, _, hcl, hcell, hr⟩ := HV.out.at (hb.mono hB) hx
      subst ho
      match cs, hcl with
      | [c0], _ =>
        have e0 := hcell 0 _ rfl
        simp only [Nat.add_zero, Nat.mul_one] at e0
        have HC := Lib.hid (HH.out _ (List.mem_of_getElem? hx) _ wr hr hb)
        have HX := Lib.hid hx
        clear hx hr hcell
        cases hp : p x with
        | true =>
          rw [hp] at HC
          have HT := Lib.hid (anyG_true HX.out hp)
          clear hp
          go_wp2_with (first | ((with_reducible refine HC.out.mono ?_); rintro e' w1 ⟨rfl, hb1⟩))
          go_ret
          exact ⟨j, rfl, by rw [← HR.out, HT.out]; simp, Below.next hb hb1⟩
        | false =>
          rw [hp] at HC
          have HT := Lib.hid (anyG_take_succ HX.out HA.out hp)
          clear hp
          go_wp2_with (first | ((with_reducible refine HC.out.mono ?_); rintro e' w1 ⟨rfl, hb1⟩))
          go_roundw
          case rel => exact ⟨j + 1, by go_num, by omega, HT, Below.next hb hb1⟩
          case measure => simp [intOf]; omega
    · have HF := Lib.hid (show l.any p = false by rw [← HA.out, List.take_of_length_le (by rw [← HL.out]; omega)])
      go_wp2
      go_ret
      exact ⟨-1, rfl, by rw [← HR.out, HF.out]; rfl, hb⟩

set_option maxHeartbeats 1000000 in
theorem containsG_int {α : Type} (R : α → List Value → Prop) (F : FuncId) (caps : Array Value) (p : α → Bool) (r : Bool) (l : List α) (sl : Value) (B : Nat) (w : World) (hv : SlC w B 1 R l sl) (hB : B ≤ w.heap.size)
    (hF : ∀ (args : Array Value) (w : World), (callFunc F args).run Tryz.prog w = .ok (.enter F args) w)
    (H : ∀ x ∈ l, ∀ c0 w', R x [c0] → Below w.heap.size w w' → Calls Tryz.prog F (#[c0] ++ caps) w' fun e w'' => e = .returned (.bool (p x)) ∧ Below w'.heap.size w' w'') (hr : l.any p = r) :
    Calls Tryz.prog 62 #[sl, .func (.func F) #[] caps] w fun e w' => e = .returned (.bool r) ∧ Below w.heap.size w w' := by
  have HI := Lib.hid (indexG_int R F caps p l sl B w hv hB hF H)
  rw [hr] at HI
  obtain ⟨o, len, cap, rfl, h1, h2, h3⟩ := hv.slice
  clear hr hv H hF h1 h2 h3
  go_enter Tryz.func62, Tryz.ntmps62
  go_wp2_with (first | (go_at_call 95; refine HI.out.mono ?_; rintro e' w1 ⟨q, rfl, hq, hb⟩))
  subst hq
  go_ret
  exact ⟨by simp, hb⟩

set_option maxHeartbeats 1000000 in
set_option maxRecDepth 100000 in
theorem indexG_ins {α : Type} (R : α → List Value → Prop) (F : FuncId) (caps : Array Value) (p : α → Bool) (l : List α) (sl : Value) (B : Nat) (w : World) (hv : SlC w B 5 R l sl) (hB : B ≤ w.heap.size)
    (hF : ∀ (args : Array Value) (w : World), (callFunc F args).run Tryz.prog w = .ok (.enter F args) w)
    (H : ∀ x ∈ l, ∀ c0 c1 c2 c3 c4 w', R x [c0, c1, c2, c3, c4] → Below w.heap.size w w' → Calls Tryz.prog F (#[.agg #[c0, c1, c2, c3, c4]] ++ caps) w' fun e w'' => e = .returned (.bool (p x)) ∧ Below w'.heap.size w' w'') :
    Calls Tryz.prog 58 #[sl, .func (.func F) #[] caps] w (IdxPost (l.any p) w) := by
  obtain ⟨r, hr⟩ : ∃ r, l.any p = r := ⟨_, rfl⟩
  rw [hr]
  obtain ⟨o, len, cap, rfl, hl, hcap, hmax⟩ := hv.slice
  have HR := Lib.hid hr
  have HV := Lib.hid hv
  have HL := Lib.hid hl
  have HH := Lib.hid H
  clear hr hv hl H
  go_enter Tryz.func58, Tryz.ntmps58
  go_wp2
  go_loopw [8] (fun i wr => ∃ (j : Nat), i = .int .i64 j ∧ j ≤ len ∧ Hid ((l.take j).any p = false) ∧ Below w.heap.size w wr) (fun i _ => len - (intOf i).toNat)
  case atStart => exact ⟨0, rfl, by omega, rfl, Below.refl _ _⟩
  case round =>
    obtain ⟨j, rfl, hj, HA, hb⟩ := hrel
    by_cases hjl : j < len
    · obtain ⟨x, hx⟩ : ∃ x, l[j]? = some x := ⟨_, List.getElem?_eq_getElem (by rw [← HL.out]; exact hjl)⟩
      obtain ⟨b, off, cs, ho, _, hcl, hcell, hr⟩ := HV.out.at (hb.mono hB) hx
      subst ho
      match cs, hcl with
      | [c0, c1, c2, c3, c4], _ =>
        have e0 := hcell 0 _ rfl
        have e1 := hcell 1 _ rfl
        have e2 := hcell 2 _ rfl
        have e3 := hcell 3 _ rfl
        have e4 := hcell 4 _ rfl
        simp only [Nat.add_zero] at e0
        have HC := Lib.hid (HH.out _ (List.mem_of_getElem? hx) _ _ _ _ _ wr hr hb)
        have HX := Lib.hid hx
        clear hx hr hcell
        cases hp : p x with
        | true =>
          rw [hp] at HC
          have HT := Lib.hid (anyG_true HX.out hp)
          clear hp
          go_wp2_with (first | ((with_reducible refine HC.out.mono ?_); rintro e' w1 ⟨rfl, hb1⟩))
          go_ret
          exact ⟨j, rfl, by rw [← HR.out, HT.out]; simp, Below.next hb hb1⟩
        | false =>
          rw [hp] at HC
          have HT := Lib.hid (anyG_take_succ HX.out HA.out hp)
          clear hp
          go_wp2_with (first | ((with_reducible refine HC.out.mono ?_); rintro e' w1 ⟨rfl, hb1⟩))
          go_roundw
          case rel => exact ⟨j + 1, by go_num, by omega, HT, Below.next hb hb1⟩
          case measure => simp [intOf]; omega
    · have HF := Lib.hid (show l.any p = false by rw [← HA.out, List.take_of_length_le (by rw [← HL.out]; omega)])
      go_wp2
      go_ret
      exact ⟨-1, rfl, by rw [← HR.out, HF.out]; rfl, hb⟩

set_option maxHeartbeats 1000000 in
theorem containsG_ins {α : Type} (R : α → List Value → Prop) (F : FuncId) (caps : Array Value) (p : α → Bool) (r : Bool) (l : List α) (sl : Value) (B : Nat) (w : World) (hv : SlC w B 5 R l sl) (hB : B ≤ w.heap.size)
    (hF : ∀ (args : Array Value) (w : World), (callFunc F args).run Tryz.prog w = .ok (.enter F args) w)
    (H : ∀ x ∈ l, ∀ c0 c1 c2 c3 c4 w', R x [c0, c1, c2, c3, c4] → Below w.heap.size w w' → Calls Tryz.prog F (#[.agg #[c0, c1, c2, c3, c4]] ++ caps) w' fun e w'' => e = .returned (.bool (p x)) ∧ Below w'.heap.size w' w'') (hr : l.any p = r) :
    Calls Tryz.prog 32 #[sl, .func (.func F) #[] caps] w fun e w' => e = .returned (.bool r) ∧ Below w.heap.size w w' := by
  have HI := Lib.hid (indexG_ins R F caps p l sl B w hv hB hF H)
  rw [hr] at HI
  obtain ⟨o, len, cap, rfl, h1, h2, h3⟩ := hv.slice
  clear hr hv H hF h1 h2 h3
  go_enter Tryz.func32, Tryz.ntmps32
  go_wp2_with (first | (go_at_call 58; refine HI.out.mono ?_; rintro e' w1 ⟨q, rfl, hq, hb⟩))
  subst hq
  go_ret
  exact ⟨by simp, hb⟩

end Go.Proofs.YtigkhmppnnljiaaGreatDoor

namespace Go.Proofs.YtigkhmppnnljiaaGreatDoor
open Go.RowKit

end Go.Proofs.YtigkhmppnnljiaaGreatDoor

namespace Go.Proofs.YtigkhmppnnljiaaGreatDoor
open Go.RowKit

end Go.Proofs.YtigkhmppnnljiaaGreatDoor

namespace Go.Proofs.YtigkhmppnnljiaaGreatDoor
open Go.RowKit

/-- The five cells of a datum that lies in a box. -/
def Five (w : World) (b : Nat) (v0 v1 v2 v3 v4 : Value) : Prop :=
  w.cell? ⟨b, 0, none⟩ = some v0 ∧ w.cell? ⟨b, 1, none⟩ = some v1 ∧ w.cell? ⟨b, 2, none⟩ = some v2 ∧ w.cell? ⟨b, 3, none⟩ = some v3 ∧ w.cell? ⟨b, 4, none⟩ = some v4
end Go.Proofs.YtigkhmppnnljiaaGreatDoor

namespace Go.Proofs.YtigkhmppnnljiaaGreatDoor
open Go

section
variable {P : Program} {ops : Array Oper} {md : Region.Mode} {C : World → Prop}

/-- All behind n waits, through others behind it, for n. -/
def coneB (md : Region.Mode) (ops : Array Oper) (n : Nat) : Bool := (List.range ops.size).all fun t => decide (t ≤ n) || (List.range t).any fun s => decide (n ≤ s) && Region.waitsFor md ops t s

theorem cone_waits {n : Nat} {listed : Array Bool} (hs : Region.sinkB md ops n = true) (hc : coneB md ops n = true) (hn : n < ops.size) (inv : HeadInv md ops n listed) :
    ∀ (d i : Nat), n - i = d → i < n → listed.getD i true = false → ∀ t, n ≤ t → t ∉ Region.ready md ops listed := by
  intro d
  induction d using Nat.strongRecOn with
  | _ d ih =>
    intro i hd hi hun t ht hr
    obtain ⟨_, ot, hot, hall⟩ := mem_ready.1 hr
    have htlt : t < ops.size := (Array.getElem?_eq_some_iff.1 hot).1
    by_cases htn : t = n
    · subst htn
      have h1 := List.all_eq_true.1 hs i (List.mem_range.2 hi)
      obtain ⟨j, hj, hj2⟩ := List.any_eq_true.1 h1
      simp only [Bool.and_eq_true, decide_eq_true_eq] at hj2
      obtain ⟨oj, hoj, e, he, hb, hon⟩ := Region.waitsFor_spec hj2.2
      have hjle : j ≤ t := by have := List.mem_range.1 hj; omega
      by_cases hjt : j = t
      · subst hjt
        have : oj = ot := Option.some.inj (hoj.symm.trans hot)
        subst this
        have h2 := hall e he hb
        rw [hon, getD_both hun] at h2
        cases h2
      · cases hl : listed.getD j false with
        | true =>
          have h2 := inv.closed j oj hoj hl e he hb
          rw [hon, getD_both hun] at h2
          cases h2
        | false =>
          have hjs : j < listed.size := by rw [inv.size]; omega
          exact ih (t - j) (by omega) j rfl (by omega) (getD_in hjs hl) t (Nat.le_refl _) hr
    · have h1 := List.all_eq_true.1 hc t (List.mem_range.2 htlt)
      simp only [Bool.or_eq_true, decide_eq_true_eq] at h1
      rcases h1 with h1 | h1
      · omega
      · obtain ⟨s, hs', h2⟩ := List.any_eq_true.1 h1
        simp only [Bool.and_eq_true, decide_eq_true_eq] at h2
        obtain ⟨o', ho', e, he, hb, hon⟩ := Region.waitsFor_spec h2.2
        have : o' = ot := Option.some.inj (ho'.symm.trans hot)
        subst this
        have h3 := hall e he hb
        have := List.mem_range.1 hs'
        rw [hon, getD_both (inv.tail s h2.1 (by omega))] at h3
        cases h3

theorem mid_front {n i : Nat} {oi : Oper} {v : Value} {L : Array Bool → Act → Prop} (hi : ops[i]? = some oi) (hsel : ∀ (j : Nat) (o : Oper) cs b, ops[j]? = some o → o.op ≠ .select cs b)
    (hs : Region.sinkB md ops n = true) (hc : coneB md ops n = true) (hn : n < ops.size) (hin : i < n) (hdone : ∀ listed a, L listed a → ∀ j ∈ Region.ready md ops listed, n ≤ j) :
    ∀ (f : Nat) (listed : Array Bool) (a : Act), HeadInv md ops n listed →
      (∀ j oj, ops[j]? = some oj → j ≠ i → listed.getD j true = false → (∀ e ∈ oj.after, Region.binds md e = true → e.on ≠ i) → oi.apart ops oj = true) →
      i ∈ Region.ready md ops listed → YieldsIn P ops C oi v a →
      headAny P md ops C n L f (listed.setIfInBounds i true) (a.put oi.dst v) → headAny P md ops C n L (f + 1) listed a := by
  intro f
  induction f with
  | zero =>
    intro listed a inv _ hr hy H
    have hun := (mem_ready.1 hr).1
    refine ⟨fun h => (by rw [h] at hr; cases hr), fun j hj => ?_⟩
    have hjn : j < n := by
      rcases Nat.lt_or_ge j n with h | h
      · exact h
      · exact absurd hj (cone_waits hs hc hn inv _ i rfl hin hun j h)
    refine ⟨hjn, ?_⟩
    by_cases hji : j = i
    · subst hji; exact hy.qOp hi H
    · have := hdone _ _ H j (ready_mono hj hji)
      omega
  | succ f ih =>
    intro listed a inv hfree hr hy H
    have hun := (mem_ready.1 hr).1
    refine ⟨fun h => (by rw [h] at hr; cases hr), fun j hj => ?_⟩
    have hjn : j < n := by
      rcases Nat.lt_or_ge j n with h | h
      · exact h
      · exact absurd hj (cone_waits hs hc hn inv _ i rfl hin hun j h)
    refine ⟨hjn, ?_⟩
    by_cases hji : j = i
    · subst hji; exact hy.qOp hi H
    · have h1 := (H.2 j (ready_mono hj hji)).2
      obtain ⟨hjun, oj, hoj, hall⟩ := mem_ready.1 hj
      have hnot : ∀ e ∈ oj.after, Region.binds md e = true → e.on ≠ i := fun e he hb heq => by
        have h1 := hall e he hb
        rw [heq, getD_both hun] at h1
        cases h1
      have h2 := qOp_put hoj (hfree j oj hoj hji hjun hnot) (fun cs b => hsel i oi cs b hi) (fun cs b => hsel j oj cs b hoj) hy h1
      have hfree' : ∀ k ok, ops[k]? = some ok → k ≠ i → (listed.setIfInBounds j true).getD k true = false → (∀ e ∈ ok.after, Region.binds md e = true → e.on ≠ i) → oi.apart ops ok = true := fun k ok hk hki hunk hno => by
        refine hfree k ok hk hki ?_ hno
        by_cases hjk : j = k
        · subst hjk; exact hjun
        · rw [getD_set_ne true hjk] at hunk; exact hunk
      refine qOp_mono (fun a' h3 => ih (listed.setIfInBounds j true) a' (inv.set hj hjn) hfree' (ready_mono hr (Ne.symm hji)) h3.1 ?_) h2
      rw [Array.setIfInBounds_comm _ _ hji]
      exact h3.2

/-- The head in the text's order; then n alone is ready; then the rest in the text's order. -/
def lexMid (md : Region.Mode) (ops : Array Oper) (g : Nat) : Nat → Nat → Array Bool → Bool
  | 0, k, listed => decide (Region.ready md ops listed = [k]) && Region.lexFrom md ops g (k + 1) (listed.setIfInBounds k true)
  | f + 1, k, listed => (Region.ready md ops listed).contains k && Region.free md ops listed k && lexMid md ops g f (k + 1) (listed.setIfInBounds k true)
def lexMidB (md : Region.Mode) (ops : Array Oper) (n : Nat) : Bool :=
  Region.noSelect ops && decide (n < ops.size) && Region.sinkB md ops n && coneB md ops n && lexMid md ops (ops.size - n - 1) n 0 (Array.replicate ops.size false)

theorem mid_lex {n g : Nat} {Lq : Act → Prop} (hsel : Region.noSelect ops = true) (hs : Region.sinkB md ops n = true) (hc : coneB md ops n = true) (hn : n < ops.size) :
    ∀ (l : List Oper) (k : Nat) (listed : Array Bool) (a : Act), (∀ j, j < l.length → l[j]? = ops[k + j]?) → k + l.length = n → HeadInv md ops n listed →
    lexMid md ops g l.length k listed = true → wpQuiet P ops C Lq l a →
    headAny P md ops C n (fun listed' a' => (Region.ready md ops listed' = [n] ∧ Region.lexFrom md ops g (n + 1) (listed'.setIfInBounds n true) = true) ∧ Lq a') l.length listed a
  | [], k, listed, a, _, hk, _, hB, h => by
    have : k = n := by simpa using hk
    subst this
    exact ⟨by simpa [lexMid] using hB, h⟩
  | o :: l, k, listed, a, hl, hk, inv, hB, h => by
    have h0 : ops[k]? = some o := by simpa using (hl 0 (by simp)).symm
    simp only [List.length_cons, lexMid, Bool.and_eq_true] at hB
    obtain ⟨⟨hr, hf⟩, hB'⟩ := hB
    have hkn : k < n := by simp only [List.length_cons] at hk; omega
    have hr' : k ∈ Region.ready md ops listed := by simpa using hr
    have hst : qOp P ops C k (wpQuiet P ops C Lq l) a := by unfold qOp; simp only [h0]; exact h
    obtain ⟨v, hy, hK⟩ := yieldsIn_of_qOp h0 hst
    exact mid_front h0 (Region.noSelect_spec hsel) hs hc hn hkn (fun listed' a' hL j hj => by rw [hL.1.1] at hj; simp at hj; omega) l.length listed a inv (Region.free_spec h0 hf) hr' hy
      (mid_lex hsel hs hc hn l (k + 1) _ _ (fun j hj => by have := hl (j + 1) (by simp; omega); simpa [Nat.add_assoc, Nat.add_comm 1 j] using this) (by simp only [List.length_cons] at hk; omega) (inv.set hr' hkn) hB' hK)

theorem quietAt_of {o : Oper} {a : Act} {w : World} {v : Value} (h : (execOp a.eval o).run P w = .ok (.value v) w) : o.quietAt P a C w v := by
  unfold Oper.quietAt
  rw [h]
  exact ⟨rfl, rfl⟩
/-- What is asked behind the one operation. -/
def MidPost (P : Program) (ops : Array Oper) (Q : Exit → Act → World → Prop) (rest : List Oper) (e : Exit) (a : Act) (w : World) : Prop :=
  e = .normal ∧ ∃ D : World → Prop, D w ∧ wpQuiet P ops D (fun a' => ∀ w', D w' → Q .normal a' w') rest a

theorem op_of_list {Q : Exit → Act → World → Prop} {K : Act → World → Prop} {i : Nat} {o : Oper} {a : Act} {w : World} (ho : ops[i]? = some o) (h : wpList P ops (fun e a' w' => e = .normal ∧ K a' w') [o] a w) : wpOp P ops Q i K a w := by
  unfold wpOp
  simp only [ho]
  by_cases hw : Region.wanted o (yielded ops a.tmps) = true
  · rw [if_pos hw]
    exact .inl (wp_of_list (ops := ops) hw h)
  · unfold wpList at h
    rw [if_neg hw] at h ⊢
    exact h.2

theorem wp_region_mid {id : Nat} {Q : Exit → Act → World → Prop} {a : Act} {w : World} {l : List Oper} (C : World → Prop) (n : Nat) (hm : P.follows .mixedOrders = true) (hB : lexMidB .any l.toArray n = true) (hC : C w.drew)
    (h : wpQuiet P l.toArray C (fun a' => ∀ w', C w' → wpList P l.toArray (MidPost P l.toArray Q (l.drop (n + 1))) ((l.drop n).take 1) a' w') (l.take n) a) : (Code.region id l.toArray true).wp P Q a w := by
  simp only [lexMidB, Bool.and_eq_true, decide_eq_true_eq] at hB
  obtain ⟨⟨⟨⟨hsel, hn⟩, hs⟩, hc⟩, hlex⟩ := hB
  have hn' : n < l.length := by simpa using hn
  have htl : (l.take n).length = n := by simp; omega
  have hdl : (l.drop (n + 1)).length = l.toArray.size - n - 1 := by simp; omega
  obtain ⟨o, ho⟩ : ∃ o, l[n]? = some o := ⟨_, List.getElem?_eq_getElem hn'⟩
  have ho1 : (l.drop n).take 1 = [o] := by
    rw [List.drop_eq_getElem_cons hn']
    rw [List.getElem?_eq_getElem hn'] at ho
    simp only [Option.some.injEq] at ho
    simp [ho]
  have inv0 : HeadInv .any l.toArray n (Array.replicate l.toArray.size false) :=
    ⟨by simp, fun j oj _ hl => (by rw [getD_replicate_false] at hl; cases hl), fun t _ ht => getD_in (by simpa using ht) (getD_replicate_false _ _)⟩
  have H := mid_lex (md := .any) (g := l.toArray.size - n - 1) hsel hs hc hn (l.take n) 0 _ a (fun j hj => by
    have hj' : j < n := by rw [htl] at hj; exact hj
    simp [hj']) (by simpa using htl) inv0 (by rw [htl]; exact hlex) h
  refine wp_region_any hm ?_
  have := any_of_head (Q' := Q) (g := (l.toArray.size - n - 1) + 1) (fun listed a' w' hC' hL => by
    obtain ⟨⟨hr, hlx⟩, hL⟩ := hL
    refine ⟨fun h0 => (by rw [h0] at hr; cases hr), fun i hi => ?_⟩
    rw [hr] at hi
    obtain rfl : i = n := by simpa using hi
    have h1 := hL w' hC'
    rw [ho1] at h1
    have h2 : wpList P l.toArray (fun e a2 w2 => e = .normal ∧ ∃ D : World → Prop, D w2 ∧ wpQuiet P l.toArray D (fun a3 => ∀ w3, D w3 → Q .normal a3 w3) (l.drop (i + 1)) a2) [o] a' w' := h1
    refine wpOp_mono (fun a2 w2 hK => ?_) (op_of_list (o := o) (by simpa using ho) h2)
    obtain ⟨D, hD, hq⟩ := hK
    have h3 := wpAnyQ_lex (C := D) (md := .any) hsel (l.drop (i + 1)) (i + 1) (listed.setIfInBounds i true) a2 (fun j => by simp [List.getElem?_drop]) (by rw [hdl]; exact hlx) hq
    rw [hdl] at h3
    exact wpAny_of_quiet (Q := fun a3 => ∀ w3, D w3 → Q .normal a3 w3) (fun _ w3 hw3 h => h w3 hw3) _ _ _ _ hD h3) _ _ _ _ hC H
  rw [htl, show n + (l.toArray.size - n - 1 + 1) = l.toArray.size by omega] at this
  exact this

theorem class_eq {C : World → Prop} : (fun w' : World => ∃ t : { w' : World // C w' }, w' = t.1) = C := by
  funext w'
  exact propext ⟨fun ⟨t, ht⟩ => ht ▸ t.2, fun hw => ⟨⟨w', hw⟩, rfl⟩⟩

/-- .. with the class of worlds as the worlds W t. -/
theorem wp_region_mid_class {id : Nat} {Q : Exit → Act → World → Prop} {a : Act} {w : World} {l : List Oper} (C : World → Prop) (n : Nat) (hm : P.follows .mixedOrders = true) (hB : lexMidB .any l.toArray n = true) (hC : C w.drew)
    (h : ∀ (T : Type) [Nonempty T] (W : T → World), (∀ t, C (W t)) → (∀ w', C w' → ∃ t, w' = W t) → wpQuiet P l.toArray (fun w' => ∃ t, w' = W t) (fun a' => ∀ t, wpList P l.toArray (MidPost P l.toArray Q (l.drop (n + 1))) ((l.drop n).take 1) a' (W t)) (l.take n) a) : (Code.region id l.toArray true).wp P Q a w := by
  haveI : Nonempty { w' : World // C w' } := ⟨⟨_, hC⟩⟩
  have h1 := h { w' : World // C w' } (fun t => t.1) (fun t => t.2) (fun w' hw => ⟨⟨w', hw⟩, rfl⟩)
  rw [class_eq] at h1
  refine wp_region_mid C n hm hB hC ?_
  have e2 : (fun a' => ∀ w', C w' → wpList P l.toArray (MidPost P l.toArray Q (l.drop (n + 1))) ((l.drop n).take 1) a' w') = (fun a' => ∀ t : { w' : World // C w' }, wpList P l.toArray (MidPost P l.toArray Q (l.drop (n + 1))) ((l.drop n).take 1) a' t.1) := by
    funext a'
    exact propext ⟨fun h t => h t.1 t.2, fun h w' hw => h ⟨w', hw⟩⟩
  rw [e2]
  exact h1
/-- .. and so the rest. -/
theorem mid_rest {Q : Exit → Act → World → Prop} {a : Act} {w : World} {rest : List Oper} (C : World → Prop) (hC : C w)
    (h : ∀ (T : Type) [Nonempty T] (W : T → World), (∀ t, C (W t)) → (∀ w', C w' → ∃ t, w' = W t) → wpQuiet P ops (fun w' => ∃ t, w' = W t) (fun a' => ∀ t, Q .normal a' (W t)) rest a) : MidPost P ops Q rest .normal a w := by
  haveI : Nonempty { w' : World // C w' } := ⟨⟨_, hC⟩⟩
  have h1 := h { w' : World // C w' } (fun t => t.1) (fun t => t.2) (fun w' hw => ⟨⟨w', hw⟩, rfl⟩)
  rw [class_eq] at h1
  refine ⟨rfl, C, hC, ?_⟩
  have e2 : (fun a' => ∀ w', C w' → Q .normal a' w') = (fun a' => ∀ t : { w' : World // C w' }, Q .normal a' t.1) := by
    funext a'
    exact propext ⟨fun h t => h t.1 t.2, fun h w' hw => h ⟨w', hw⟩⟩
  rw [e2]
  exact h1
end
end Go.Proofs.YtigkhmppnnljiaaGreatDoor

/-
  slices.IndexFunc, ContainsFunc over slices of rows, for whatever closure meets a contract.
-/
import Derived.Test.YtdlhocghiaghfaaGreatDoorUntRep
import Derived.Test.YtdlhocghiaghfaaGreatDoorRights
namespace Go.Proofs.YtdlhocghiaghfaaGreatDoor
open Go.RowKit

theorem anyG_take_succ {α : Type} {p : α → Bool} {l : List α} {j : Nat} {x : α} (hx : l[j]? = some x) (h : (l.take j).any p = false) (hp : p x = false) : (l.take (j + 1)).any p = false := by
  rw [List.take_add_one, hx]
  simp [h, hp]
theorem anyG_true {α : Type} {p : α → Bool} {l : List α} {j : Nat} {x : α} (hx : l[j]? = some x) (hp : p x = true) : l.any p = true :=
  List.any_eq_true.2 ⟨x, List.mem_of_getElem? hx, hp⟩

set_option maxHeartbeats 1000000 in
set_option maxRecDepth 100000 in
theorem indexG_int {α : Type} (R : α → List Value → Prop) (F : FuncId) (caps : Array Value) (p : α → Bool) (l : List α) (sl : Value) (B : Nat) (w : World) (hv : SlC w B 1 R l sl) (hB : B ≤ w.heap.size)
    (hF : ∀ (args : Array Value) (w : World), (callFunc F args).run Tryz.prog w = .ok (.enter F args) w)
    (H : ∀ x ∈ l, ∀ c0 w', R x [c0] → Below w.heap.size w w' → Calls Tryz.prog F (#[c0] ++ caps) w' fun e w'' => e = .returned (.bool (p x)) ∧ Below w'.heap.size w' w'') :
    Calls Tryz.prog 102 #[sl, .func (.func F) #[] caps] w (IdxPost (l.any p) w) := by
  obtain ⟨r, hr⟩ : ∃ r, l.any p = r := ⟨_, rfl⟩
  rw [hr]
  obtain ⟨o, len, cap, rfl, hl, hcap, hmax⟩ := hv.slice
  have HR := Lib.hid hr
  have HV := Lib.hid hv
  have HL := Lib.hid hl
  have HH := Lib.hid H
  clear hr hv hl H
  go_enter Tryz.func102, Tryz.ntmps102
  go_wp2
  go_loopw [8] (fun i wr => ∃ (j : Nat), i = .int .i64 j ∧ j ≤ len ∧ Hid ((l.take j).any p = false) ∧ Below w.heap.size w wr) (fun i _ => len - (intOf i).toNat)
  case atStart => exact ⟨0, rfl, by omega, rfl, Below.refl _ _⟩
  case round =>
    obtain ⟨j, rfl, hj, HA, hb⟩ := hrel
    by_cases hjl : j < len
    · obtain ⟨x, hx⟩ : ∃ x, l[j]? = some x := ⟨_, List.getElem?_eq_getElem (by rw [← HL.out]; exact hjl)⟩
      obtain ⟨b, off, cs, ho, _, hcl, hcell, hr⟩ := HV.out.at (hb.mono hB) hx
      subst ho
      match cs, hcl with
      | [c0], _ =>
        have e0 := hcell 0 _ rfl
        simp only [Nat.add_zero, Nat.mul_one] at e0
        have HC := Lib.hid (HH.out _ (List.mem_of_getElem? hx) _ wr hr hb)
        have HX := Lib.hid hx
        clear hx hr hcell
        cases hp : p x with
        | true =>
          rw [hp] at HC
          have HT := Lib.hid (anyG_true HX.out hp)
          clear hp
          go_wp2_with (first | ((with_reducible refine HC.out.mono ?_); rintro e' w1 ⟨rfl, hb1⟩))
          go_ret
          exact ⟨j, rfl, by rw [← HR.out, HT.out]; simp, Below.next hb hb1⟩
        | false =>
          rw [hp] at HC
          have HT := Lib.hid (anyG_take_succ HX.out HA.out hp)
          clear hp
          go_wp2_with (first | ((with_reducible refine HC.out.mono ?_); rintro e' w1 ⟨rfl, hb1⟩))
          go_roundw
          case rel => exact ⟨j + 1, by go_num, by omega, HT, Below.next hb hb1⟩
          case measure => simp [intOf]; omega
    · have HF := Lib.hid (show l.any p = false by rw [← HA.out, List.take_of_length_le (by rw [← HL.out]; omega)])
      go_wp2
      go_ret
      exact ⟨-1, rfl, by rw [← HR.out, HF.out]; rfl, hb⟩

set_option maxHeartbeats 1000000 in
theorem containsG_int {α : Type} (R : α → List Value → Prop) (F : FuncId) (caps : Array Value) (p : α → Bool) (r : Bool) (l : List α) (sl : Value) (B : Nat) (w : World) (hv : SlC w B 1 R l sl) (hB : B ≤ w.heap.size)
    (hF : ∀ (args : Array Value) (w : World), (callFunc F args).run Tryz.prog w = .ok (.enter F args) w)
    (H : ∀ x ∈ l, ∀ c0 w', R x [c0] → Below w.heap.size w w' → Calls Tryz.prog F (#[c0] ++ caps) w' fun e w'' => e = .returned (.bool (p x)) ∧ Below w'.heap.size w' w'') (hr : l.any p = r) :
    Calls Tryz.prog 69 #[sl, .func (.func F) #[] caps] w fun e w' => e = .returned (.bool r) ∧ Below w.heap.size w w' := by
  have HI := Lib.hid (indexG_int R F caps p l sl B w hv hB hF H)
  rw [hr] at HI
  obtain ⟨o, len, cap, rfl, h1, h2, h3⟩ := hv.slice
  clear hr hv H hF h1 h2 h3
  go_enter Tryz.func69, Tryz.ntmps69
  go_wp2_with (first | (go_at_call 102; refine HI.out.mono ?_; rintro e' w1 ⟨q, rfl, hq, hb⟩))
  subst hq
  go_ret
  exact ⟨by simp, hb⟩

set_option maxHeartbeats 1000000 in
set_option maxRecDepth 100000 in
theorem indexG_ins {α : Type} (R : α → List Value → Prop) (F : FuncId) (caps : Array Value) (p : α → Bool) (l : List α) (sl : Value) (B : Nat) (w : World) (hv : SlC w B 5 R l sl) (hB : B ≤ w.heap.size)
    (hF : ∀ (args : Array Value) (w : World), (callFunc F args).run Tryz.prog w = .ok (.enter F args) w)
    (H : ∀ x ∈ l, ∀ c0 c1 c2 c3 c4 w', R x [c0, c1, c2, c3, c4] → Below w.heap.size w w' → Calls Tryz.prog F (#[.agg #[c0, c1, c2, c3, c4]] ++ caps) w' fun e w'' => e = .returned (.bool (p x)) ∧ Below w'.heap.size w' w'') :
    Calls Tryz.prog 65 #[sl, .func (.func F) #[] caps] w (IdxPost (l.any p) w) := by
  obtain ⟨r, hr⟩ : ∃ r, l.any p = r := ⟨_, rfl⟩
  rw [hr]
  obtain ⟨o, len, cap, rfl, hl, hcap, hmax⟩ := hv.slice
  have HR := Lib.hid hr
  have HV := Lib.hid hv
  have HL := Lib.hid hl
  have HH := Lib.hid H
  clear hr hv hl H
  go_enter Tryz.func65, Tryz.ntmps65
  go_wp2
  go_loopw [8] (fun i wr => ∃ (j : Nat), i = .int .i64 j ∧ j ≤ len ∧ Hid ((l.take j).any p = false) ∧ Below w.heap.size w wr) (fun i _ => len - (intOf i).toNat)
  case atStart => exact ⟨0, rfl, by omega, rfl, Below.refl _ _⟩
  case round =>
    obtain ⟨j, rfl, hj, HA, hb⟩ := hrel
    by_cases hjl : j < len
    · obtain ⟨x, hx⟩ : ∃ x, l[j]? = some x := ⟨_, List.getElem?_eq_getElem (by rw [← HL.out]; exact hjl)⟩
      obtain ⟨b, off, cs, ho, _, hcl, hcell, hr⟩ := HV.out.at (hb.mono hB) hx
      subst ho
      match cs, hcl with
      | [c0, c1, c2, c3, c4], _ =>
        have e0 := hcell 0 _ rfl
        have e1 := hcell 1 _ rfl
        have e2 := hcell 2 _ rfl
        have e3 := hcell 3 _ rfl
        have e4 := hcell 4 _ rfl
        simp only [Nat.add_zero] at e0
        have HC := Lib.hid (HH.out _ (List.mem_of_getElem? hx) _ _ _ _ _ wr hr hb)
        have HX := Lib.hid hx
        clear hx hr hcell
        cases hp : p x with
        | true =>
          rw [hp] at HC
          have HT := Lib.hid (anyG_true HX.out hp)
          clear hp
          go_wp2_with (first | ((with_reducible refine HC.out.mono ?_); rintro e' w1 ⟨rfl, hb1⟩))
          go_ret
          exact ⟨j, rfl, by rw [← HR.out, HT.out]; simp, Below.next hb hb1⟩
        | false =>
          rw [hp] at HC
          have HT := Lib.hid (anyG_take_succ HX.out HA.out hp)
          clear hp
          go_wp2_with (first | ((with_reducible refine HC.out.mono ?_); rintro e' w1 ⟨rfl, hb1⟩))
          go_roundw
          case rel => exact ⟨j + 1, by go_num, by omega, HT, Below.next hb hb1⟩
          case measure => simp [intOf]; omega
    · have HF := Lib.hid (show l.any p = false by rw [← HA.out, List.take_of_length_le (by rw [← HL.out]; omega)])
      go_wp2
      go_ret
      exact ⟨-1, rfl, by rw [← HR.out, HF.out]; rfl, hb⟩

set_option maxHeartbeats 1000000 in
theorem containsG_ins {α : Type} (R : α → List Value → Prop) (F : FuncId) (caps : Array Value) (p : α → Bool) (r : Bool) (l : List α) (sl : Value) (B : Nat) (w : World) (hv : SlC w B 5 R l sl) (hB : B ≤ w.heap.size)
    (hF : ∀ (args : Array Value) (w : World), (callFunc F args).run Tryz.prog w = .ok (.enter F args) w)
    (H : ∀ x ∈ l, ∀ c0 c1 c2 c3 c4 w', R x [c0, c1, c2, c3, c4] → Below w.heap.size w w' → Calls Tryz.prog F (#[.agg #[c0, c1, c2, c3, c4]] ++ caps) w' fun e w'' => e = .returned (.bool (p x)) ∧ Below w'.heap.size w' w'') (hr : l.any p = r) :
    Calls Tryz.prog 39 #[sl, .func (.func F) #[] caps] w fun e w' => e = .returned (.bool r) ∧ Below w.heap.size w w' := by
  have HI := Lib.hid (indexG_ins R F caps p l sl B w hv hB hF H)
  rw [hr] at HI
  obtain ⟨o, len, cap, rfl, h1, h2, h3⟩ := hv.slice
  clear hr hv H hF h1 h2 h3
  go_enter Tryz.func39, Tryz.ntmps39
  go_wp2_with (first | (go_at_call 65; refine HI.out.mono ?_; rintro e' w1 ⟨q, rfl, hq, hb⟩))
  subst hq
  go_ret
  exact ⟨by simp, hb⟩

set_option maxHeartbeats 1000000 in
set_option maxRecDepth 100000 in
theorem indexG_proc {α : Type} (R : α → List Value → Prop) (F : FuncId) (caps : Array Value) (p : α → Bool) (l : List α) (sl : Value) (B : Nat) (w : World) (hv : SlC w B 5 R l sl) (hB : B ≤ w.heap.size)
    (hF : ∀ (args : Array Value) (w : World), (callFunc F args).run Tryz.prog w = .ok (.enter F args) w)
    (H : ∀ x ∈ l, ∀ c0 c1 c2 c3 c4 w', R x [c0, c1, c2, c3, c4] → Below w.heap.size w w' → Calls Tryz.prog F (#[.agg #[c0, c1, c2, c3, c4]] ++ caps) w' fun e w'' => e = .returned (.bool (p x)) ∧ Below w'.heap.size w' w'') :
    Calls Tryz.prog 74 #[sl, .func (.func F) #[] caps] w (IdxPost (l.any p) w) := by
  obtain ⟨r, hr⟩ : ∃ r, l.any p = r := ⟨_, rfl⟩
  rw [hr]
  obtain ⟨o, len, cap, rfl, hl, hcap, hmax⟩ := hv.slice
  have HR := Lib.hid hr
  have HV := Lib.hid hv
  have HL := Lib.hid hl
  have HH := Lib.hid H
  clear hr hv hl H
  go_enter Tryz.func74, Tryz.ntmps74
  go_wp2
  go_loopw [8] (fun i wr => ∃ (j : Nat), i = .int .i64 j ∧ j ≤ len ∧ Hid ((l.take j).any p = false) ∧ Below w.heap.size w wr) (fun i _ => len - (intOf i).toNat)
  case atStart => exact ⟨0, rfl, by omega, rfl, Below.refl _ _⟩
  case round =>
    obtain ⟨j, rfl, hj, HA, hb⟩ := hrel
    by_cases hjl : j < len
    · obtain ⟨x, hx⟩ : ∃ x, l[j]? = some x := ⟨_, List.getElem?_eq_getElem (by rw [← HL.out]; exact hjl)⟩
      obtain ⟨b, off, cs, ho, _, hcl, hcell, hr⟩ := HV.out.at (hb.mono hB) hx
      subst ho
      match cs, hcl with
      | [c0, c1, c2, c3, c4], _ =>
        have e0 := hcell 0 _ rfl
        have e1 := hcell 1 _ rfl
        have e2 := hcell 2 _ rfl
        have e3 := hcell 3 _ rfl
        have e4 := hcell 4 _ rfl
        simp only [Nat.add_zero] at e0
        have HC := Lib.hid (HH.out _ (List.mem_of_getElem? hx) _ _ _ _ _ wr hr hb)
        have HX := Lib.hid hx
        clear hx hr hcell
        cases hp : p x with
        | true =>
          rw [hp] at HC
          have HT := Lib.hid (anyG_true HX.out hp)
          clear hp
          go_wp2_with (first | ((with_reducible refine HC.out.mono ?_); rintro e' w1 ⟨rfl, hb1⟩))
          go_ret
          exact ⟨j, rfl, by rw [← HR.out, HT.out]; simp, Below.next hb hb1⟩
        | false =>
          rw [hp] at HC
          have HT := Lib.hid (anyG_take_succ HX.out HA.out hp)
          clear hp
          go_wp2_with (first | ((with_reducible refine HC.out.mono ?_); rintro e' w1 ⟨rfl, hb1⟩))
          go_roundw
          case rel => exact ⟨j + 1, by go_num, by omega, HT, Below.next hb hb1⟩
          case measure => simp [intOf]; omega
    · have HF := Lib.hid (show l.any p = false by rw [← HA.out, List.take_of_length_le (by rw [← HL.out]; omega)])
      go_wp2
      go_ret
      exact ⟨-1, rfl, by rw [← HR.out, HF.out]; rfl, hb⟩

set_option maxHeartbeats 1000000 in
theorem containsG_proc {α : Type} (R : α → List Value → Prop) (F : FuncId) (caps : Array Value) (p : α → Bool) (r : Bool) (l : List α) (sl : Value) (B : Nat) (w : World) (hv : SlC w B 5 R l sl) (hB : B ≤ w.heap.size)
    (hF : ∀ (args : Array Value) (w : World), (callFunc F args).run Tryz.prog w = .ok (.enter F args) w)
    (H : ∀ x ∈ l, ∀ c0 c1 c2 c3 c4 w', R x [c0, c1, c2, c3, c4] → Below w.heap.size w w' → Calls Tryz.prog F (#[.agg #[c0, c1, c2, c3, c4]] ++ caps) w' fun e w'' => e = .returned (.bool (p x)) ∧ Below w'.heap.size w' w'') (hr : l.any p = r) :
    Calls Tryz.prog 44 #[sl, .func (.func F) #[] caps] w fun e w' => e = .returned (.bool r) ∧ Below w.heap.size w w' := by
  have HI := Lib.hid (indexG_proc R F caps p l sl B w hv hB hF H)
  rw [hr] at HI
  obtain ⟨o, len, cap, rfl, h1, h2, h3⟩ := hv.slice
  clear hr hv H hF h1 h2 h3
  go_enter Tryz.func44, Tryz.ntmps44
  go_wp2_with (first | (go_at_call 74; refine HI.out.mono ?_; rintro e' w1 ⟨q, rfl, hq, hb⟩))
  subst hq
  go_ret
  exact ⟨by simp, hb⟩
end Go.Proofs.YtdlhocghiaghfaaGreatDoor

/-
  The contracts of slices.IndexFunc, ContainsFunc over data, for whatever closure meets a contract.
-/
import Derived.Test.YtlpkpkcfgchngaaDoorFew
import Derived.Laws.EntriesVeiled
namespace Go.Proofs.YtlpkpkcfgchngaaDoor
open Go.RowKit

theorem any_take_succ {p : Dat → Bool} {l : List Dat} {j : Nat} {x : Dat} (hx : l[j]? = some x) (h : (l.take j).any p = false) (hp : p x = false) : (l.take (j + 1)).any p = false := by
  rw [List.take_add_one, hx]
  simp [h, hp]

theorem any_true {p : Dat → Bool} {l : List Dat} {j : Nat} {x : Dat} (hx : l[j]? = some x) (hp : p x = true) : l.any p = true :=
  List.any_eq_true.2 ⟨x, List.mem_of_getElem? hx, hp⟩

/-- IndexFunc's answer: not below 0 just if there is one. -/
def IdxPost (b : Bool) (w : World) (e : Ending) (w' : World) : Prop := ∃ r : Int, e = .returned (.int .i64 r) ∧ decide (0 ≤ r) = b ∧ Below w.heap.size w w'

set_option maxHeartbeats 1000000 in
set_option maxRecDepth 100000 in
theorem indexFunc_any (F : FuncId) (caps : Array Value) (p : Dat → Bool) (l : List Dat) (o : Option Addr) (len cap : Nat) (B : Nat) (w : World) (hl : len = l.length) (hcap : len ≤ cap) (hmax : cap ≤ 9223372036854775807)
    (hv : match o with | none => l = [] ∧ cap = 0 | some a => (l ≠ [] → a.spot = none ∧ a.block < B) ∧ RepC w B l a.block a.off) (hB : B ≤ w.heap.size)
    (hF : ∀ (args : Array Value) (w : World), (callFunc F args).run Tryd.prog w = .ok (.enter F args) w)
    (H : ∀ x ∈ l, ∀ v w', RepD w' B x v → Below w.heap.size w w' → Calls Tryd.prog F (#[v] ++ caps) w' fun e w'' => e = .returned (.bool (p x)) ∧ Below w'.heap.size w' w'') :
    Calls Tryd.prog 29 #[.slice o len cap, .func (.func F) #[] caps] w (IdxPost (l.any p) w) := by
  obtain ⟨r, hr⟩ : ∃ r, l.any p = r := ⟨_, rfl⟩
  rw [hr]
  have HR := Lib.hid hr
  have HV := Lib.hid hv
  have HL := Lib.hid hl
  have HH := Lib.hid H
  clear hr hv hl H
  go_enter Tryd.func29, Tryd.ntmps29
  go_wp2
  go_loopw [8] (fun i wr => ∃ (j : Nat), i = .int .i64 j ∧ j ≤ len ∧ (l.take j).any p = false ∧ Below w.heap.size w wr) (fun i _ => len - (intOf i).toNat)
  case atStart => exact ⟨0, rfl, by omega, rfl, Below.refl _ _⟩
  case round =>
    obtain ⟨j, rfl, hj, hany, hb⟩ := hrel
    have HA := Lib.hid hany
    clear hany
    by_cases hjl : j < len
    · obtain ⟨x, hx⟩ : ∃ x, l[j]? = some x := ⟨_, List.getElem?_eq_getElem (by rw [← HL.out]; exact hjl)⟩
      obtain ⟨b, off, k', n', d', s', l', o', len', cap', ho, hxe, e0, e1, e2, e3, e4, er⟩ := part_at2 HV.out (hb.mono hB) hx
      subst ho hxe
      have HC := Lib.hid (HH.out _ (List.mem_of_getElem? hx) _ wr er hb)
      have HX := Lib.hid hx
      clear hx er
      cases hp : p (.mk k' n' d' s' l') with
      | true =>
        rw [hp] at HC
        have HT := Lib.hid (any_true HX.out hp)
        clear hp
        go_wp2_with (first | ((with_reducible refine HC.out.mono ?_); rintro e' w1 ⟨rfl, hb1⟩))
        go_ret
        exact ⟨j, rfl, by rw [← HR.out, HT.out]; simp, Below.next hb hb1⟩
      | false =>
        rw [hp] at HC
        have HT := Lib.hid (any_take_succ HX.out HA.out hp)
        clear hp
        go_wp2_with (first | ((with_reducible refine HC.out.mono ?_); rintro e' w1 ⟨rfl, hb1⟩))
        go_roundw
        case rel => exact ⟨j + 1, by go_num, by omega, HT.out, Below.next hb hb1⟩
        case measure => simp [intOf]; omega
    · have HF := Lib.hid (show l.any p = false by rw [← HA.out, List.take_of_length_le (by rw [← HL.out]; omega)])
      go_wp2
      go_ret
      exact ⟨-1, rfl, by rw [← HR.out, HF.out]; rfl, hb⟩

set_option maxHeartbeats 1000000 in
theorem containsFunc_any (F : FuncId) (caps : Array Value) (p : Dat → Bool) (r : Bool) (l : List Dat) (o : Option Addr) (len cap : Nat) (B : Nat) (w : World) (hl : len = l.length) (hcap : len ≤ cap) (hmax : cap ≤ 9223372036854775807)
    (hv : match o with | none => l = [] ∧ cap = 0 | some a => (l ≠ [] → a.spot = none ∧ a.block < B) ∧ RepC w B l a.block a.off) (hB : B ≤ w.heap.size)
    (hF : ∀ (args : Array Value) (w : World), (callFunc F args).run Tryd.prog w = .ok (.enter F args) w)
    (H : ∀ x ∈ l, ∀ v w', RepD w' B x v → Below w.heap.size w w' → Calls Tryd.prog F (#[v] ++ caps) w' fun e w'' => e = .returned (.bool (p x)) ∧ Below w'.heap.size w' w'') (hr : l.any p = r) :
    Calls Tryd.prog 18 #[.slice o len cap, .func (.func F) #[] caps] w fun e w' => e = .returned (.bool r) ∧ Below w.heap.size w w' := by
  have HI := Lib.hid (indexFunc_any F caps p l o len cap B w hl hcap hmax hv hB hF H)
  rw [hr] at HI
  clear hr hv hl H hF
  go_enter Tryd.func18, Tryd.ntmps18
  go_wp2_with (first | (go_at_call 29; refine HI.out.mono ?_; rintro e' w1 ⟨q, rfl, hq, hb⟩))
  subst hq
  go_ret
  exact ⟨by simp, hb⟩

theorem containsFunc_S (F : FuncId) (caps : Array Value) (p : Dat → Bool) (r : Bool) (l : List Dat) (sl : Value) (B : Nat) (w : World) (hv : RepS w B l sl) (hB : B ≤ w.heap.size)
    (hF : ∀ (args : Array Value) (w : World), (callFunc F args).run Tryd.prog w = .ok (.enter F args) w)
    (H : ∀ x ∈ l, ∀ v w', RepD w' B x v → Below w.heap.size w w' → Calls Tryd.prog F (#[v] ++ caps) w' fun e w'' => e = .returned (.bool (p x)) ∧ Below w'.heap.size w' w'') (hr : l.any p = r) :
    Calls Tryd.prog 18 #[sl, .func (.func F) #[] caps] w fun e w' => e = .returned (.bool r) ∧ Below w.heap.size w w' := by
  obtain ⟨o, len, cap, rfl, hl, hcap, hmax, hv⟩ := hv
  exact containsFunc_any F caps p r l o len cap B w hl hcap hmax hv hB hF H hr
end Go.Proofs.YtlpkpkcfgchngaaDoor

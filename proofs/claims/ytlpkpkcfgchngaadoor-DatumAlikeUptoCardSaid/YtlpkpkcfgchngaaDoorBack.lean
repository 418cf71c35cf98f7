/-
  The contract of slices.Backward over data: an iterator that hands on a slice's elements from the last to the first.
-/
import Derived.RangeFuncNested
import Derived.RangeFuncBound
import Derived.RangeFuncCalls
import Derived.RangeFuncLeaves
import Derived.Shelf.Abstract
import Derived.Shelf.RegionOpen
import Derived.WalkKit
import Derived.OwnWalkIn
import Derived.TacticsInMore
import Derived.LoopNIn
import Derived.LoopIn
import Derived.Test.YtlpkpkcfgchngaaDoorRep2
namespace Go.Proofs.YtlpkpkcfgchngaaDoor
open Go.RowKit Go.Shelf

attribute [local go_sem] Oper.semAt_some

/-- What the iterator hands on: an index, and a value that reads as a datum. -/
abbrev Item (w : World) (B : Nat) := { x : Int × Dat × Value // RepD w B x.2.1 x.2.2 }
def Item.dat {w : World} {B : Nat} (x : Item w B) : Dat := x.1.2.1

theorem rev_step {l : List Dat} {j k : Nat} {x : Dat} (hx : l[j]? = some x) (hk : j + k + 1 = l.length) : l.reverse.take (k + 1) = l.reverse.take k ++ [x] := by
  rw [List.take_add_one]
  congr 1
  rw [List.getElem?_reverse (by omega), show l.length - 1 - k = j by omega, hx]; rfl

set_option maxRecDepth 100000 in
set_option maxHeartbeats 2000000 in
theorem back1_in (F : Fence) (n : Nat) (hF : F.fn 32) (hro : F.round = none) (hn : 1 ≤ n) (ll Bs n₀ B : Nat) (w0 : World) (l : List Dat) (o : Option Addr) (len cap : Nat) (hl : len = l.length) (hcap : len ≤ cap) (hmax : cap ≤ 9223372036854775807)
    (hv : match o with | none => l = [] ∧ cap = 0 | some a => (l ≠ [] → a.spot = none ∧ a.block < B) ∧ RepC w0 B l a.block a.off) (hB : B ≤ n₀) (J Jx : List (Item w0 B) → World → Prop)
    (hY : ∀ pre x W, J pre W → pre.length < len → YieldAt F (n - 1) Tryd.prog ll #[.int .i64 x.1.1, x.1.2.2] W fun e W' =>
      (e = .returned (.bool true) ∧ J (pre ++ [x]) W' ∧ (Below n₀ W W' ∧ W'.heap[Bs]? = W.heap[Bs]?)) ∨ (e = .returned (.bool false) ∧ Jx (pre ++ [x]) W'))
    (W : World) (hW : Below n₀ w0 W) (hBs : Boxed W Bs 22 (.slice o len cap)) (h0 : J [] W) :
    CallsIn F n Tryd.prog 32 #[.func (.yield ll) #[] #[], .pointer (some ⟨Bs, 0, none⟩)] W fun e W' => (∃ v, e = .returned v) ∧
      ((∃ ys, ys.map Item.dat = l.reverse ∧ J ys W') ∨ (∃ pre : List (Item w0 B), True ∧ Jx pre W')) := by
  have hs0 := hBs.cell
  have HL := Lib.hid hl
  have HV := Lib.hid hv
  clear hl hv
  refine callsIn_of_wp Tryd.func32 rfl hF ?_ hro
  simp only [Tryd.ntmps32, List.size_toArray, List.length_cons, List.length_nil, Nat.reduceAdd, Nat.reduceSub, Array.replicate_succ, Array.replicate_zero, List.push_toArray, List.append_toArray, List.nil_append, List.cons_append]
  gi_wp2
  have HBs := Lib.hid hBs
  clear hBs hs0
  gi_loopw [3] (fun i wr => ∃ (i' : Int) (pre : List (Item w0 B)), i = .int .i64 i' ∧ -1 ≤ i' ∧ i' < len ∧ pre.length = (len - 1 - i').toNat ∧ pre.map Item.dat = l.reverse.take pre.length ∧ J pre wr ∧ Below n₀ w0 wr ∧ wr.heap[Bs]? = W.heap[Bs]?) (fun i _ => (intOf i + 1).toNat)
  case atStart => exact ⟨_, [], rfl, by omega, by omega, by simp, by simp, h0, hW, rfl⟩
  case round =>
    obtain ⟨i', pre, rfl, h1, h2, h3, h4, hJs, hnx, hbx⟩ := hrel
    have hs1 : Boxed wr Bs 22 (.slice o len cap) := hbx.trans HBs.out
    have hs2 := hs1.cell
    have H3 := Lib.hid h3
    have H4 := Lib.hid h4
    have HX := Lib.hid hbx
    clear h3 h4 hbx hs1
    by_cases hlt : 0 ≤ i'
    · obtain ⟨j, rfl⟩ : ∃ j : Nat, i' = j := ⟨i'.toNat, by omega⟩
      have hj : j < len := by omega
      obtain ⟨x, hx⟩ : ∃ x, l[j]? = some x := ⟨_, List.getElem?_eq_getElem (by rw [← HL.out]; exact hj)⟩
      obtain ⟨b, off, k', n', d', s', l', o', len', cap', ho, hxe, e0, e1, e2, e3, e4, er⟩ := part_at2 HV.out (Below.refl B w0) hx
      obtain ⟨b', off', ho', hlt'⟩ : ∃ b' off', o = some ⟨b', off', none⟩ ∧ b' < n₀ := by
        have hvv := HV.out
        rw [ho] at hvv
        have hne : l ≠ [] := by rintro rfl; simp at hx
        exact ⟨b, off, ho, Nat.lt_of_lt_of_le (hvv.1 hne).2 hB⟩
      rw [ho] at ho'
      simp only [Option.some.injEq, Addr.mk.injEq] at ho'
      obtain ⟨rfl, rfl, _⟩ := ho'
      have g : ∀ i, wr.cell? ⟨b, i, none⟩ = w0.cell? ⟨b, i, none⟩ := fun i => hnx.cell (p := ⟨b, i, none⟩) hlt'
      have f0 := (g _).trans e0
      have f1 := (g _).trans e1
      have f2 := (g _).trans e2
      have f3 := (g _).trans e3
      have f4 := (g _).trans e4
      have HXx := Lib.hid hx
      subst ho hxe
      clear g e0 e1 e2 e3 e4 hx
      obtain ⟨fn, tmps, assign, body, hy, hR⟩ := hY pre ⟨((j : Int), _, _), er⟩ wr hJs (by rw [H3.out]; omega)
      dsimp only at hy
      gi_wp2
      refine hR.mono ?_
      rintro e W3 (⟨rfl, hJ3, hk3, hk4⟩ | ⟨rfl, hJx3⟩)
      · have hs3 := (show Boxed W3 Bs 22 (.slice (some ⟨b, off, none⟩) len cap) from hk4.trans (HX.out.trans HBs.out)).cell
        gi_wp2
        go_roundw
        case rel =>
          refine ⟨(j : Int) - 1, pre ++ [_], rfl, by omega, by omega, ?_, ?_, hJ3, hnx.trans hk3, hk4.trans HX.out⟩
          · have := H3.out; simp; omega
          · have h3 := H3.out
            have hk : j + pre.length + 1 = l.length := by rw [← HL.out]; omega
            rw [List.map_append, H4.out, List.length_append, List.length_singleton, rev_step HXx.out hk]; rfl
        case measure => simp [intOf]
      · gi_wp2
        refine bodyPost_ret (results_none rfl _ _ _) rfl ?_
        exact ⟨⟨_, rfl⟩, .inr ⟨_, trivial, hJx3⟩⟩
    · have hH : pre.map Item.dat = l.reverse := by
        rw [H4.out]
        exact List.take_of_length_le (by have := H3.out; rw [List.length_reverse, ← HL.out]; omega)
      have HH := Lib.hid hH
      clear hH
      gi_wp2
      go_end0
      exact ⟨⟨_, rfl⟩, .inl ⟨pre, HH.out, hJs⟩⟩

set_option maxHeartbeats 1000000 in
theorem back_in (F : Fence) (n : Nat) (hF : F.fn 24) (hro : F.round = none) (a : Option Addr) (len cap : Nat) (w : World) :
    CallsIn F n Tryd.prog 24 #[.slice a len cap] w fun e w' => e = .returned (.func (.func 32) #[] #[.pointer (some ⟨w.heap.size, 0, none⟩)]) ∧ w' = w.alloc (.cells #[.slice a len cap] 22) := by
  refine callsIn_of_wp Tryd.func24 rfl hF ?_ hro
  simp only [Tryd.ntmps24, List.size_toArray, List.length_cons, List.length_nil, Nat.reduceAdd, Nat.reduceSub, Array.replicate_succ, Array.replicate_zero, List.push_toArray, List.append_toArray, List.nil_append, List.cons_append]
  gi_wp2
  go_ret
  exact ⟨rfl, rfl⟩
end Go.Proofs.YtlpkpkcfgchngaaDoor

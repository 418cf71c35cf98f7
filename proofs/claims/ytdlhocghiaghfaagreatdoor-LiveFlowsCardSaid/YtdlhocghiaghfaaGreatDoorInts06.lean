/-
  corbelref06.Ints; corbelref14.SameIns at one instruction.
-/
import Derived.Test.YtdlhocghiaghfaaGreatDoorBoxL
import Derived.Deep.LoopGhost
import Derived.Deep.QuietTactic
import Derived.BigQuiet
namespace Go.Proofs.YtdlhocghiaghfaaGreatDoor
open Go.RowKit

theorem take_snoc_eq {l l' : List Int} {j : Nat} {x : Int} (h : l[j]? = some x) (h' : l'[j]? = some x) (ht : l.take j = l'.take j) : l.take (j + 1) = l'.take (j + 1) := by
  rw [List.take_add_one, List.take_add_one, h, h', ht]

set_option maxHeartbeats 2000000 in
set_option maxRecDepth 100000 in
theorem ints06_any (l l' : List Int) (sl sl' : Value) (B : Nat) (w : World) (hv : SlC w B 1 IntR l sl) (hv' : SlC w B 1 IntR l' sl') (r : Bool) (hr : decide (l = l') = r) :
    Calls Tryz.prog 28 #[sl, sl'] w fun e w' => e = .returned (.bool r) ∧ ∃ nd, w' = w.drewN nd := by
  obtain ⟨o, n, c, rfl⟩ := hv.form
  obtain ⟨o', n', c', rfl⟩ := hv'.form
  obtain ⟨hn, hc, hm⟩ := hv.lens
  obtain ⟨hn', hc', hm'⟩ := hv'.lens
  have HV := Lib.hid hv
  have HV' := Lib.hid hv'
  have HN := Lib.hid hn
  have HN' := Lib.hid hn'
  have HR := Lib.hid hr
  by_cases hne : n = n'
  · clear hv hv' hr hn hn'
    subst hne
    have d0 : ((n : Int) != (n : Int)) = false := by simp
    go_enter Tryz.func28, Tryz.ntmps28
    go_wp2_with fail
    go_loopg [5] n (fun g i wr => ∃ j : Nat, g = n - j ∧ j ≤ n ∧ i = .int .i64 j ∧ Hid (l.take j = l'.take j) ∧ ∃ nd, wr = w.drewN nd)
    case atStart => exact ⟨0, rfl, by omega, rfl, rfl, 0, rfl⟩
    case round =>
      obtain ⟨j, rfl, hj, rfl, HT, nd, rfl⟩ := hrel
      by_cases hjl : j < n
      · obtain ⟨x, hx⟩ : ∃ x, l[j]? = some x := ⟨_, List.getElem?_eq_getElem (by rw [← HN.out]; exact hjl)⟩
        obtain ⟨y, hy⟩ : ∃ y, l'[j]? = some y := ⟨_, List.getElem?_eq_getElem (by rw [← HN'.out]; exact hjl)⟩
        obtain ⟨b1, off1, cs, ho1, _, _, hcell, hR⟩ := HV.out.at (Below.refl _ _) hx
        obtain ⟨b2, off2, ds, ho2, _, _, hdell, hR'⟩ := HV'.out.at (Below.refl _ _) hy
        subst ho1 ho2
        obtain ⟨rfl, _⟩ := hR
        obtain ⟨rfl, _⟩ := hR'
        have e0 := hcell 0 _ rfl
        have f0 := hdell 0 _ rfl
        rw [Nat.mul_one, Nat.add_zero] at e0 f0
        have HX := Lib.hid hx
        have HY := Lib.hid hy
        clear hx hy hcell hdell
        by_cases hxy : x = y
        · subst hxy
          have g0 : ((x : Int) != x) = false := by simp
          have HT2 := Lib.hid (take_snoc_eq HX.out HY.out HT.out)
          go_wp2_with fail
          go_quiet (fail)
          go_wp2_with fail
          go_roundg (n - (j + 1))
          case measure => omega
          case rel => exact ⟨j + 1, rfl, by omega, by go_num, HT2, _, rfl⟩
        · have g0 : (x != y) = true := by simpa using hxy
          obtain rfl : r = false := by
            rw [← HR.out]
            refine decide_eq_false fun e => hxy ?_
            have h1 := HX.out
            rw [e, HY.out] at h1
            exact (Option.some.inj h1).symm
          go_wp2_with fail
          go_quiet (fail)
          go_wp2_with fail
          go_ret
          exact ⟨rfl, nd + nq, World.drewN_drewN _ _ _⟩
      · obtain rfl : j = n := by omega
        obtain rfl : r = true := by
          rw [← HR.out]
          refine decide_eq_true ?_
          have h1 := HT.out
          rwa [List.take_of_length_le (by rw [← HN.out]; exact Nat.le_refl _), List.take_of_length_le (by rw [← HN'.out]; exact Nat.le_refl _)] at h1
        go_wp2_with fail
        go_ret
        exact ⟨rfl, _, rfl⟩
  · obtain rfl : r = false := by
      rw [← hr]
      exact decide_eq_false fun e => hne (by rw [hn, hn', e])
    have d0 : ((n : Int) != (n' : Int)) = true := by simpa using fun e => hne (by omega)
    clear hv hv' hr hn hn'
    go_enter Tryz.func28, Tryz.ntmps28
    go_wp2_with fail
    go_ret
    exact ⟨rfl, 0, rfl⟩

set_option maxHeartbeats 1000000 in
set_option maxRecDepth 100000 in
/-- SameIns at two readings of one instruction. -/
theorem sameIns_self (x : Ins) (c0 c1 c2 c3 c4 d0 d1 d2 d3 d4 : Value) (B : Nat) (w : World) (hx : InsR w B x [c0, c1, c2, c3, c4]) (hy : InsR w B x [d0, d1, d2, d3, d4]) (hB : B ≤ w.heap.size) :
    Calls Tryz.prog 48 #[.agg #[c0, c1, c2, c3, c4], .agg #[d0, d1, d2, d3, d4]] w fun e w' => e = .returned (.bool true) ∧ Below w.heap.size w w' := by
  obtain ⟨k, d, a, b, l⟩ := x
  obtain ⟨sl, he, _, _, _, _, hl⟩ := hx
  obtain ⟨sl', he', _, _, _, _, hl'⟩ := hy
  simp only [List.cons.injEq, and_true] at he he'
  obtain ⟨rfl, rfl, rfl, rfl, rfl⟩ := he
  obtain ⟨rfl, rfl, rfl, rfl, rfl⟩ := he'
  obtain ⟨o, n, c, rfl⟩ := hl.form
  obtain ⟨o', n', c', rfl⟩ := hl'.form
  have HC := Lib.hid (fun X Y => ints06_any l l _ _ B ((w.alloc X).alloc Y) (hl.kept (((Below.one w X).trans ((Below.one _ Y).mono (by simp))).mono hB) fun _ _ _ h => h) (hl'.kept (((Below.one w X).trans ((Below.one _ Y).mono (by simp))).mono hB) fun _ _ _ h => h) true (by simp))
  clear hl hl'
  go_enter Tryz.func48, Tryz.ntmps48
  go_wp2_with fail
  refine (HC.out _ _).mono ?_
  rintro e w1 ⟨rfl, nd, rfl⟩
  go_wp2_with fail
  go_ret
  exact ⟨rfl, ⟨rfl, rfl, rfl, by simp [World.drewN]; omega, fun b hb => ((Below.one w _).trans ((Below.one _ _).mono (by simp))).block b hb⟩⟩
end Go.Proofs.YtdlhocghiaghfaaGreatDoor

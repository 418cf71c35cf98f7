/-
  The contracts of prims.same, at, kind.
-/
import Derived.Test.YtnpiekniignfcaaGreatDoorSums
import Derived.Test.YtnpiekniignfcaaGreatDoorSames
namespace Go.Proofs.YtnpiekniignfcaaGreatDoor
open Go.RowKit

set_option maxHeartbeats 1000000 in
set_option maxRecDepth 100000 in
theorem psame_any (x y : Dat) (v u : Value) (B : Nat) (w : World) (hx : Dat.right x 0 = true) (hy : Dat.right y 0 = true) (hv : RepD w B x v) (hu : RepD w B y u) (hB : B ≤ w.heap.size) :
    Calls Tryz.prog 49 #[v, u] w fun e w' => e = .returned (.bool (Prims.eq x y)) ∧ Below w.heap.size w w' := by
  obtain ⟨r, hr⟩ : ∃ r, Prims.eq x y = r := ⟨_, rfl⟩
  obtain ⟨k, n, d, s, o, len, cap, rfl⟩ := agg_of hv
  obtain ⟨k', n', d', s', o', len', cap', rfl⟩ := agg_of hu
  have HC := Lib.hid (fun W (hb : Below w.heap.size w W) => same_any x y _ _ B W (hv.kept (hb.mono hB)) (hu.kept (hb.mono hB)) (Nat.le_trans hB hb.size))
  rw [hx, hy, Bool.true_and, Bool.true_and] at HC
  obtain ⟨kx, nx, dx, sx, lx⟩ := x
  obtain ⟨_, he, _⟩ := hv.open
  simp only [Value.agg.injEq, Array.mk.injEq, List.cons.injEq, Value.int.injEq, true_and] at he
  obtain rfl := he.1
  clear he
  rw [hr]
  obtain ⟨q, hq⟩ : ∃ q, Dat.alike (.mk k nx dx sx lx) y = q := ⟨_, rfl⟩
  rw [hq] at HC
  have HR := Lib.hid (show (decide (k ≠ 3 ∧ k ≠ 6 ∧ k ≠ 7) && q) = r by rw [← hr, ← hq]; rfl)
  clear hr hq hv hu hx hy
  have HK := Lib.hid (fun X Y => ((Below.refl w.heap.size w).alloc (Nat.le_refl _) X).alloc (by simp) Y)
  by_cases hk : k = 3 ∨ k = 6 ∨ k = 7
  · obtain rfl : false = r := by rw [← HR.out, decide_eq_false (by omega)]; rfl
    rcases hk with rfl | rfl | rfl
    all_goals
      go_enter Tryz.func49, Tryz.ntmps49
      go_wp2_with fail
      go_ret
      exact ⟨rfl, HK.out _ _⟩
  · obtain rfl : q = r := by rw [← HR.out, decide_eq_true (by omega)]; simp
    have k3 : (k == 3) = false := by simp; omega
    have k6 : (k == 6) = false := by simp; omega
    have k7 : (k == 7) = false := by simp; omega
    go_enter Tryz.func49, Tryz.ntmps49
    go_wp2_with fail
    have HC2 := HC.out _ (HK.out (.cells #[.int .i64 k, .int .i64 n, .int .i64 d, .string s, .slice o len cap] 26) (.cells #[.int .i64 k', .int .i64 n', .int .i64 d', .string s', .slice o' len' cap'] 26))
    with_reducible refine HC2.mono ?_
    rintro e1 w1 ⟨rfl, hb1⟩
    go_wp2_with fail
    go_ret
    exact ⟨rfl, (HK.out _ _).trans (hb1.mono (by simp; omega))⟩

set_option maxRecDepth 100000 in
theorem kind_any (n : Int) (h0 : 9 ≤ n) (h1 : n ≤ 16) (w : World) : Calls Tryz.prog 54 #[.int .i64 n] w fun e w' => e = .returned (.int .i64 (Prims.kinds.getD (n - 9).toNat (-1))) ∧ Below w.heap.size w w' := by
  have hn : n = 9 ∨ n = 10 ∨ n = 11 ∨ n = 12 ∨ n = 13 ∨ n = 14 ∨ n = 15 ∨ n = 16 := by omega
  rcases hn with rfl | rfl | rfl | rfl | rfl | rfl | rfl | rfl
  · have hix : (Instr.index 85 (.agg #[.int .i64 4, .int .i64 6, .int .i64 0, .int .i64 2, .int .i64 1, .int .i64 3, .int .i64 7, .int .i64 (-1)]) (.int .i64 0)).run Tryz.prog w = .ok (.int .i64 4) w := by
      simp [Instr.index, run_underlying Tryz.underlying85, asIntOf, part, go_sem]
    go_enter Tryz.func54, Tryz.ntmps54
    go_wp2_with fail
    go_ret
    exact ⟨rfl, Below.refl _ _⟩
  · have hix : (Instr.index 85 (.agg #[.int .i64 4, .int .i64 6, .int .i64 0, .int .i64 2, .int .i64 1, .int .i64 3, .int .i64 7, .int .i64 (-1)]) (.int .i64 1)).run Tryz.prog w = .ok (.int .i64 6) w := by
      simp [Instr.index, run_underlying Tryz.underlying85, asIntOf, part, go_sem]
    go_enter Tryz.func54, Tryz.ntmps54
    go_wp2_with fail
    go_ret
    exact ⟨rfl, Below.refl _ _⟩
  · have hix : (Instr.index 85 (.agg #[.int .i64 4, .int .i64 6, .int .i64 0, .int .i64 2, .int .i64 1, .int .i64 3, .int .i64 7, .int .i64 (-1)]) (.int .i64 2)).run Tryz.prog w = .ok (.int .i64 0) w := by
      simp [Instr.index, run_underlying Tryz.underlying85, asIntOf, part, go_sem]
    go_enter Tryz.func54, Tryz.ntmps54
    go_wp2_with fail
    go_ret
    exact ⟨rfl, Below.refl _ _⟩
  · have hix : (Instr.index 85 (.agg #[.int .i64 4, .int .i64 6, .int .i64 0, .int .i64 2, .int .i64 1, .int .i64 3, .int .i64 7, .int .i64 (-1)]) (.int .i64 3)).run Tryz.prog w = .ok (.int .i64 2) w := by
      simp [Instr.index, run_underlying Tryz.underlying85, asIntOf, part, go_sem]
    go_enter Tryz.func54, Tryz.ntmps54
    go_wp2_with fail
    go_ret
    exact ⟨rfl, Below.refl _ _⟩
  · have hix : (Instr.index 85 (.agg #[.int .i64 4, .int .i64 6, .int .i64 0, .int .i64 2, .int .i64 1, .int .i64 3, .int .i64 7, .int .i64 (-1)]) (.int .i64 4)).run Tryz.prog w = .ok (.int .i64 1) w := by
      simp [Instr.index, run_underlying Tryz.underlying85, asIntOf, part, go_sem]
    go_enter Tryz.func54, Tryz.ntmps54
    go_wp2_with fail
    go_ret
    exact ⟨rfl, Below.refl _ _⟩
  · have hix : (Instr.index 85 (.agg #[.int .i64 4, .int .i64 6, .int .i64 0, .int .i64 2, .int .i64 1, .int .i64 3, .int .i64 7, .int .i64 (-1)]) (.int .i64 5)).run Tryz.prog w = .ok (.int .i64 3) w := by
      simp [Instr.index, run_underlying Tryz.underlying85, asIntOf, part, go_sem]
    go_enter Tryz.func54, Tryz.ntmps54
    go_wp2_with fail
    go_ret
    exact ⟨rfl, Below.refl _ _⟩
  · have hix : (Instr.index 85 (.agg #[.int .i64 4, .int .i64 6, .int .i64 0, .int .i64 2, .int .i64 1, .int .i64 3, .int .i64 7, .int .i64 (-1)]) (.int .i64 6)).run Tryz.prog w = .ok (.int .i64 7) w := by
      simp [Instr.index, run_underlying Tryz.underlying85, asIntOf, part, go_sem]
    go_enter Tryz.func54, Tryz.ntmps54
    go_wp2_with fail
    go_ret
    exact ⟨rfl, Below.refl _ _⟩
  · have hix : (Instr.index 85 (.agg #[.int .i64 4, .int .i64 6, .int .i64 0, .int .i64 2, .int .i64 1, .int .i64 3, .int .i64 7, .int .i64 (-1)]) (.int .i64 7)).run Tryz.prog w = .ok (.int .i64 (-1)) w := by
      simp [Instr.index, run_underlying Tryz.underlying85, asIntOf, part, go_sem]
    go_enter Tryz.func54, Tryz.ntmps54
    go_wp2_with fail
    go_ret
    exact ⟨rfl, Below.refl _ _⟩

/-- A datum out of a list: its value, and how it reads. -/
theorem zero_rep (B : Nat) (w : World) : RepD w B Prims.zeroD (leafV 0 0 0) := rep_leaf 0 0 0 ⟨#[]⟩ (by omega) (by omega) (by omega) (by decide)

theorem slice_at {w : World} {B : Nat} {l : List Dat} {v : Value} (h : RepS w B l v) : ∃ o len cap, v = .slice o len cap ∧ len = l.length ∧ len ≤ cap ∧ cap ≤ 9223372036854775807 := by
  obtain ⟨o, len, cap, h1, h2, h3, h4, _⟩ := h
  exact ⟨o, len, cap, h1, h2, h3, h4⟩

set_option maxHeartbeats 2000000 in
set_option maxRecDepth 100000 in
theorem at_any (x y : Dat) (v u : Value) (B : Nat) (w : World) (hv : RepD w B x v) (hu : RepD w B y u) :
    ∃ (k n d : Int) (s : ByteArray) (o : Option Addr) (len cap : Nat), RepD w B (Prims.at' x y).1 (.agg #[.int .i64 k, .int .i64 n, .int .i64 d, .string s, .slice o len cap]) ∧ ∀ W, Below B w W → B ≤ W.heap.size →
      Calls Tryz.prog 51 #[v, u] W fun e w' => e = .returned (.tuple #[.agg #[.int .i64 k, .int .i64 n, .int .i64 d, .string s, .slice o len cap], .int .i64 (Prims.at' x y).2]) ∧ Below W.heap.size W w' := by
  obtain ⟨kx, nx, dx, sx, lx⟩ := x
  obtain ⟨ky, ny, dy, sy, ly⟩ := y
  obtain ⟨sl, rfl, _, _, _, _, hs⟩ := hv.open
  obtain ⟨sm, rfl, _, bn, bd, _, hsm⟩ := hu.open
  have HS := Lib.hid hs
  obtain ⟨o, len, cap, rfl, hl, hcap, hmax⟩ := slice_at hs
  obtain ⟨om, lenm, capm, rfl, hlm⟩ := slice_at hsm
  have HV := Lib.hid hv
  have HU := Lib.hid hu
  have HL := Lib.hid hl
  clear hlm hsm hs hv hu hl
  by_cases hb : kx ≠ 7 ∨ ky ≠ 0
  · have h1 : Prims.at' (.mk kx nx dx sx lx) (.mk ky ny dy sy ly) = (Prims.zeroD, 1) := by rw [Prims.at', if_pos (show (Dat.mk kx nx dx sx lx).kind ≠ 7 ∨ (Dat.mk ky ny dy sy ly).kind ≠ 0 from hb)]
    rcases (by omega : kx ≠ 7 ∨ (kx = 7 ∧ ky ≠ 0)) with hk | ⟨rfl, hk⟩
    all_goals have hk' := hk
    · have k7 : (kx != 7) = true := by simpa using hk
      refine ⟨0, 0, 0, ⟨#[]⟩, none, 0, 0, by rw [h1]; exact zero_rep _ _, fun W hW hBW => ?_⟩
      rw [h1]
      have HK := Lib.hid (fun X Y Z => (((Below.refl W.heap.size W).alloc (Nat.le_refl _) X).alloc (by simp) Y).alloc (by simp; omega) Z)
      clear h1 HS HV HU hb
      go_enter Tryz.func51, Tryz.ntmps51
      go_wp2_with fail
      exact bodyPost_ret (v := .tuple #[leafV 0 0 0, .int .i64 1]) (by simp [results, Tryz.results51, go_sem, leafV]) rfl ⟨rfl, HK.out _ _ _⟩
    · have k0 : (ky != 0) = true := by simpa using hk
      refine ⟨0, 0, 0, ⟨#[]⟩, none, 0, 0, by rw [h1]; exact zero_rep _ _, fun W hW hBW => ?_⟩
      rw [h1]
      have HK := Lib.hid (fun X Y Z => (((Below.refl W.heap.size W).alloc (Nat.le_refl _) X).alloc (by simp) Y).alloc (by simp; omega) Z)
      clear h1 HS HV HU hb
      go_enter Tryz.func51, Tryz.ntmps51
      go_wp2_with fail
      exact bodyPost_ret (v := .tuple #[leafV 0 0 0, .int .i64 1]) (by simp [results, Tryz.results51, go_sem, leafV]) rfl ⟨rfl, HK.out _ _ _⟩
  obtain ⟨rfl, rfl⟩ : kx = 7 ∧ ky = 0 := by omega
  by_cases hc : dy ≠ 1 ∨ ny < 0 ∨ (len : Int) ≤ ny
  · have h1 : Prims.at' (.mk 7 nx dx sx lx) (.mk 0 ny dy sy ly) = (Prims.zeroD, 3) := by
      rw [Prims.at', if_neg (show ¬ ((Dat.mk 7 nx dx sx lx).kind ≠ 7 ∨ (Dat.mk 0 ny dy sy ly).kind ≠ 0) from hb), if_pos (by show dy ≠ 1 ∨ ny < 0 ∨ (lx.length : Int) ≤ ny; rw [← HL.out]; exact hc)]
    clear hb
    rcases (by omega : dy ≠ 1 ∨ (dy = 1 ∧ ny < 0) ∨ (dy = 1 ∧ 0 ≤ ny ∧ (len : Int) ≤ ny)) with hk | ⟨rfl, hk⟩ | ⟨rfl, hk0, hk⟩
    · have k7 : (dy != 1) = true := by simpa using hk
      refine ⟨0, 0, 0, ⟨#[]⟩, none, 0, 0, by rw [h1]; exact zero_rep _ _, fun W hW hBW => ?_⟩
      rw [h1]
      have HK := Lib.hid (fun X Y Z => (((Below.refl W.heap.size W).alloc (Nat.le_refl _) X).alloc (by simp) Y).alloc (by simp; omega) Z)
      clear h1 HS HV HU
      go_enter Tryz.func51, Tryz.ntmps51
      go_wp2_with fail
      exact bodyPost_ret (v := .tuple #[leafV 0 0 0, .int .i64 3]) (by simp [results, Tryz.results51, go_sem, leafV]) rfl ⟨rfl, HK.out _ _ _⟩
    · have k7 : decide (ny < 0) = true := by simpa using hk
      refine ⟨0, 0, 0, ⟨#[]⟩, none, 0, 0, by rw [h1]; exact zero_rep _ _, fun W hW hBW => ?_⟩
      rw [h1]
      have HK := Lib.hid (fun X Y Z => (((Below.refl W.heap.size W).alloc (Nat.le_refl _) X).alloc (by simp) Y).alloc (by simp; omega) Z)
      clear h1 HS HV HU
      go_enter Tryz.func51, Tryz.ntmps51
      go_wp2_with fail
      exact bodyPost_ret (v := .tuple #[leafV 0 0 0, .int .i64 3]) (by simp [results, Tryz.results51, go_sem, leafV]) rfl ⟨rfl, HK.out _ _ _⟩
    · have k7 : decide (ny < 0) = false := by simpa using hk0
      have k8 : decide ((len : Int) ≤ ny) = true := by simpa using hk
      refine ⟨0, 0, 0, ⟨#[]⟩, none, 0, 0, by rw [h1]; exact zero_rep _ _, fun W hW hBW => ?_⟩
      rw [h1]
      have HK := Lib.hid (fun X Y Z => (((Below.refl W.heap.size W).alloc (Nat.le_refl _) X).alloc (by simp) Y).alloc (by simp; omega) Z)
      clear h1 HS HV HU
      go_enter Tryz.func51, Tryz.ntmps51
      go_wp2_with fail
      exact bodyPost_ret (v := .tuple #[leafV 0 0 0, .int .i64 3]) (by simp [results, Tryz.results51, go_sem, leafV]) rfl ⟨rfl, HK.out _ _ _⟩
  · obtain ⟨rfl, hn0, hn1⟩ : dy = 1 ∧ 0 ≤ ny ∧ ny < (len : Int) := by omega
    obtain ⟨j, rfl⟩ : ∃ j : Nat, ny = j := ⟨ny.toNat, by omega⟩
    have hjl : j < len := by omega
    obtain ⟨z, hz⟩ : ∃ z, lx[j]? = some z := ⟨_, List.getElem?_eq_getElem (by rw [← HL.out]; exact hjl)⟩
    have h1 : Prims.at' (.mk 7 nx dx sx lx) (.mk 0 j 1 sy ly) = (z, 0) := by
      rw [Prims.at', if_neg (show ¬ ((Dat.mk 7 nx dx sx lx).kind ≠ 7 ∨ (Dat.mk 0 (j : Int) 1 sy ly).kind ≠ 0) from hb), if_neg (by show ¬ ((1 : Int) ≠ 1 ∨ (j : Int) < 0 ∨ (lx.length : Int) ≤ j); rw [← HL.out]; omega)]
      show (lx.getD (j : Int).toNat Prims.zeroD, (0 : Int)) = (z, 0)
      rw [Int.toNat_natCast, List.getD_eq_getElem?_getD, hz]; rfl
    rw [h1]
    obtain ⟨b1, off1, k1, n1, d1, s1, l1, o1, len1, cap1, ho1, hx1, f0, f1, f2, f3, f4, fr⟩ := part_atS HS.out (Below.refl _ _) hz
    subst ho1 hx1
    have FR := Lib.hid fr
    refine ⟨k1, n1, d1, s1, o1, len1, cap1, FR.out, fun W hW hBW => ?_⟩
    obtain ⟨b2, off2, k2, n2, d2, s2, l2, o2, len2, cap2, ho2, hx2, g0, g1, g2, g3, g4, gr⟩ := part_atS HS.out hW hz
    have hbB : b1 < B := by
      obtain ⟨_, _, _, he, _, _, _, h2⟩ := HS.out
      simp only [Value.slice.injEq] at he
      obtain ⟨rfl, _, _⟩ := he
      exact (h2.1 (by intro h; rw [h] at hz; simp at hz)).2
    have q0 := (hW.cell (p := ⟨b1, off1 + j * 5, none⟩) hbB).trans f0
    have q1 := (hW.cell (p := ⟨b1, off1 + j * 5 + 1, none⟩) hbB).trans f1
    have q2 := (hW.cell (p := ⟨b1, off1 + j * 5 + 2, none⟩) hbB).trans f2
    have q3 := (hW.cell (p := ⟨b1, off1 + j * 5 + 3, none⟩) hbB).trans f3
    have q4 := (hW.cell (p := ⟨b1, off1 + j * 5 + 4, none⟩) hbB).trans f4
    have hbl := cell_lt q0
    have hbl1 : b1 < W.heap.size + 1 := by omega
    have hbl2 : b1 < W.heap.size + 1 + 1 := by omega
    have hbl3 : b1 < W.heap.size + 2 := by omega
    have k7 : decide ((j : Int) < 0) = false := by simp
    have k8 : decide ((len : Int) ≤ (j : Int)) = false := by simp; omega
    have HK := Lib.hid (fun X Y Z => (((Below.refl W.heap.size W).alloc (Nat.le_refl _) X).alloc (by simp) Y).alloc (by simp; omega) Z)
    clear h1 HS HV HU hb hc hz ho2 hx2 g0 g1 g2 g3 g4 gr f0 f1 f2 f3 f4 fr FR hbB hW
    go_enter Tryz.func51, Tryz.ntmps51
    go_wp2_with fail
    exact bodyPost_ret (v := .tuple #[.agg #[.int .i64 k1, .int .i64 n1, .int .i64 d1, .string s1, .slice o1 len1 cap1], .int .i64 0]) (by simp [results, Tryz.results51, go_sem]) rfl ⟨rfl, HK.out _ _ _⟩
end Go.Proofs.YtnpiekniignfcaaGreatDoor

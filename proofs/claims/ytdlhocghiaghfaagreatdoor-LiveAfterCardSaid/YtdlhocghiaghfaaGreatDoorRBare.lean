/-
  corbelref14.bare.
-/
import Derived.Test.YtdlhocghiaghfaaGreatDoorRNamed
import Derived.Deep.Cut
import Derived.Deep.CutRange
import Derived.Deep.DeepCutAuto
namespace Go.Proofs.YtdlhocghiaghfaaGreatDoor
open Go.RowKit

set_option maxHeartbeats 4000000 in
set_option maxRecDepth 100000 in
theorem bare_to (k d a b : Int) (l : List Int) (o : Option Addr) (len cap : Nat) (B : Nat) (w : World) (hk : -9223372036854775808 ≤ k ∧ k ≤ 9223372036854775807) (hd : -9223372036854775808 ≤ d ∧ d ≤ 9223372036854775807) (ha : -9223372036854775808 ≤ a ∧ a ≤ 9223372036854775807) (hb : -9223372036854775808 ≤ b ∧ b ≤ 9223372036854775807) (hv : SlC w B 1 IntR l (.slice o len cap)) (hB : B ≤ w.heap.size) (hmx : l.length ≤ 1000000) (h0 : 0 ≤ k) (h1 : k ≤ 22) (r : Bool) (hr : Unt.bare ⟨k, d, a, b, l⟩ = r) :
    Calls Tryz.prog 73 #[.agg #[.int .i64 k, .int .i64 d, .int .i64 a, .int .i64 b, .slice o len cap]] w fun e w' => e = .returned (.bool r) ∧ Below w.heap.size w w' := by
  obtain ⟨g, hg⟩ : ∃ g, Unt.gives ⟨k, d, a, b, l⟩ = g := ⟨_, rfl⟩
  obtain ⟨q1, hq1⟩ : ∃ q1, (decide (g < 0) && decide (d ≠ 0)) = q1 := ⟨_, rfl⟩
  obtain ⟨q2, hq2⟩ : ∃ q2, (decide (a ≠ 0) && (decide (k = 3) || decide (k = 4))) = q2 := ⟨_, rfl⟩
  obtain ⟨q3, hq3⟩ : ∃ q3, (decide (b ≠ 0) && (decide (k ≠ 12) && (decide (k ≠ 13) && (decide (k ≠ 16) && (decide (k ≠ 18) && decide (k ≠ 20)))))) = q3 := ⟨_, rfl⟩
  obtain ⟨q4, hq4⟩ : ∃ q4, (decide (l.length = 0) || ((decide (7 ≤ k) && decide (k ≤ 9)) || (decide (17 ≤ k) && decide (k ≤ 21)))) = q4 := ⟨_, rfl⟩
  have HR := Lib.hid (show (!q1 && (!q2 && (!q3 && q4))) = r from by rw [← hr, Unt.bare, hg, ← hq1, ← hq2, ← hq3, ← hq4])
  have Hq1 := Lib.hid hq1
  have Hq2 := Lib.hid hq2
  have Hq3 := Lib.hid hq3
  have Hq4 := Lib.hid hq4
  have HGV := Lib.hid hg
  obtain ⟨hlen, hcap, hmax⟩ := hv.lens
  have HL := Lib.hid hlen
  have HC := Lib.hid (fun X => named_any ⟨k, d, a, b, l⟩ _ _ _ _ _ B (w.alloc X) ⟨.slice o len cap, rfl, hk, hd, ha, hb, hv.kept ((Below.one w X).mono hB) fun _ _ _ h => h⟩ (by simp; omega) hmx h0 h1)
  clear hr hv hg hlen hq1 hq2 hq3 hq4
  go_enter Tryz.func73, Tryz.ntmps73
  go_wp2_with fail
  refine (HC.out _).mono ?_
  rintro e w1 ⟨sl, rfl, _, hb1⟩
  rw [HGV.out]
  have bx : BoxL w1 w.heap.size 34 [.int .i64 k, .int .i64 d, .int .i64 a, .int .i64 b, .slice o len cap] := (BoxL.new rfl _ _).keep hb1
  have x0 := bx.cell 0 rfl
  have x1 := bx.cell 1 rfl
  have x2 := bx.cell 2 rfl
  have x3 := bx.cell 3 rfl
  have x4 := bx.cell 4 rfl
  have HB1 := Lib.hid (one_below hb1)
  clear hb1 bx HC
  go_upto_region 2 with fail
  go_cut [16] (fun c wx => c = .bool q1 ∧ w1 = wx)
  case first => as_aux_lemma =>
    by_cases hg : g < 0
    · have f1 : decide (g < 0) = true := decide_eq_true hg
      by_cases hd0 : d = 0
      · subst hd0
        obtain rfl : q1 = false := by rw [← Hq1.out]; simp
        go_wp2_with fail
        go_meet
        exact ⟨rfl, rfl⟩
      · have f2 : (d != 0) = true := by simpa using hd0
        obtain rfl : q1 = true := by rw [← Hq1.out]; simp [hg, hd0]
        go_wp2_with fail
        go_meet
        exact ⟨rfl, rfl⟩
    · have f1 : decide (g < 0) = false := decide_eq_false hg
      obtain rfl : q1 = false := by rw [← Hq1.out]; simp [hg]
      go_wp2_with fail
      go_meet
      exact ⟨rfl, rfl⟩
  case rest =>
    obtain ⟨rfl, rfl⟩ := hcut
    cases q1 with
    | true =>
      obtain rfl : r = false := by rw [← HR.out]; simp
      go_wp2_with fail
      go_ret
      exact ⟨rfl, HB1.out⟩
    | false =>
      go_upto_region 4 with fail
      go_cut [29] (fun c wx => c = .bool q2 ∧ w1 = wx)
      case first => as_aux_lemma =>
        by_cases ha0 : a = 0
        · subst ha0
          obtain rfl : q2 = false := by rw [← Hq2.out]; simp
          go_wp2_with fail
          go_meet
          exact ⟨rfl, rfl⟩
        have f2 : (a != 0) = true := by simpa using ha0
        by_cases k3 : k = 3
        · subst k3
          obtain rfl : q2 = true := by rw [← Hq2.out]; simp [ha0]
          go_wp2_with fail
          go_meet
          exact ⟨rfl, rfl⟩
        have f3 : (k == 3) = false := by simpa using k3
        by_cases k4 : k = 4
        · subst k4
          obtain rfl : q2 = true := by rw [← Hq2.out]; simp [ha0]
          go_wp2_with fail
          go_meet
          exact ⟨rfl, rfl⟩
        have f4 : (k == 4) = false := by simpa using k4
        obtain rfl : q2 = false := by rw [← Hq2.out]; simp [k3, k4]
        go_wp2_with fail
        go_meet
        exact ⟨rfl, rfl⟩
      case rest =>
        obtain ⟨rfl, rfl⟩ := hcut
        cases q2 with
        | true =>
          obtain rfl : r = false := by rw [← HR.out]; simp
          go_wp2_with fail
          go_ret
          exact ⟨rfl, HB1.out⟩
        | false =>
          go_upto_region 6 with fail
          go_cut [57] (fun c wx => c = .bool q3 ∧ w1 = wx)
          case first => as_aux_lemma =>
            by_cases hb0 : b = 0
            · subst hb0
              obtain rfl : q3 = false := by rw [← Hq3.out]; simp
              go_wp2_with fail
              go_meet
              exact ⟨rfl, rfl⟩
            have f2 : (b != 0) = true := by simpa using hb0
            by_cases k12 : k = 12
            · subst k12
              obtain rfl : q3 = false := by rw [← Hq3.out]; simp
              go_wp2_with fail
              go_meet
              exact ⟨rfl, rfl⟩
            have f12 : (k != 12) = true := by simpa using k12
            by_cases k13 : k = 13
            · subst k13
              obtain rfl : q3 = false := by rw [← Hq3.out]; simp
              go_wp2_with fail
              go_meet
              exact ⟨rfl, rfl⟩
            have f13 : (k != 13) = true := by simpa using k13
            by_cases k16 : k = 16
            · subst k16
              obtain rfl : q3 = false := by rw [← Hq3.out]; simp
              go_wp2_with fail
              go_meet
              exact ⟨rfl, rfl⟩
            have f16 : (k != 16) = true := by simpa using k16
            by_cases k18 : k = 18
            · subst k18
              obtain rfl : q3 = false := by rw [← Hq3.out]; simp
              go_wp2_with fail
              go_meet
              exact ⟨rfl, rfl⟩
            have f18 : (k != 18) = true := by simpa using k18
            by_cases k20 : k = 20
            · subst k20
              obtain rfl : q3 = false := by rw [← Hq3.out]; simp
              go_wp2_with fail
              go_meet
              exact ⟨rfl, rfl⟩
            have f20 : (k != 20) = true := by simpa using k20
            obtain rfl : q3 = true := by rw [← Hq3.out]; simp [hb0, k12, k13, k16, k18, k20]
            go_wp2_with fail
            go_meet
            exact ⟨rfl, rfl⟩
          case rest =>
            obtain ⟨rfl, rfl⟩ := hcut
            cases q3 with
            | true =>
              obtain rfl : r = false := by rw [← HR.out]; simp
              go_wp2_with fail
              go_ret
              exact ⟨rfl, HB1.out⟩
            | false =>
              obtain rfl : q4 = r := by rw [← HR.out]; simp
              by_cases hl0 : len = 0
              · subst hl0
                obtain rfl : q4 = true := by rw [← Hq4.out, decide_eq_true (show l.length = 0 from HL.out.symm)]; rfl
                go_wp2_with fail
                go_ret
                exact ⟨rfl, HB1.out⟩
              have hl0' : (len == 0) = false := by simpa using hl0
              have hl1 : ¬ l.length = 0 := by rw [← HL.out]; exact hl0
              have hl2 : ((len : Int) == 0) = false := by simpa using hl0
              rw [decide_eq_false hl1] at Hq4
              clear hl1
              by_cases k7 : 7 ≤ k
              · have f7 : decide (7 ≤ k) = true := decide_eq_true k7
                by_cases k9 : k ≤ 9
                · have f9 : decide (k ≤ 9) = true := decide_eq_true k9
                  obtain rfl : q4 = true := by rw [← Hq4.out]; simp [k7, k9]
                  go_wp2_with fail
                  go_ret
                  exact ⟨rfl, HB1.out⟩
                have f9 : decide (k ≤ 9) = false := decide_eq_false k9
                by_cases k17 : 17 ≤ k
                · have f17 : decide (17 ≤ k) = true := decide_eq_true k17
                  by_cases k21 : k ≤ 21
                  · have f21 : decide (k ≤ 21) = true := decide_eq_true k21
                    obtain rfl : q4 = true := by rw [← Hq4.out]; simp [k17, k21]
                    go_wp2_with fail
                    go_ret
                    exact ⟨rfl, HB1.out⟩
                  · have f21 : decide (k ≤ 21) = false := decide_eq_false k21
                    obtain rfl : q4 = false := by rw [← Hq4.out]; simp [k9, k21]
                    go_wp2_with fail
                    go_ret
                    exact ⟨rfl, HB1.out⟩
                · have f17 : decide (17 ≤ k) = false := decide_eq_false k17
                  obtain rfl : q4 = false := by rw [← Hq4.out]; simp [k9, k17]
                  go_wp2_with fail
                  go_ret
                  exact ⟨rfl, HB1.out⟩
              · have f7 : decide (7 ≤ k) = false := decide_eq_false k7
                have k17 : ¬ 17 ≤ k := by omega
                have f17 : decide (17 ≤ k) = false := decide_eq_false k17
                obtain rfl : q4 = false := by rw [← Hq4.out]; simp [k7, k17]
                go_wp2_with fail
                go_ret
                exact ⟨rfl, HB1.out⟩
end Go.Proofs.YtdlhocghiaghfaaGreatDoor

/-
  What the proofs lean on: RBare, RIns.
-/
import Derived.Deep.Cut
import Derived.Deep.CutRange
import Derived.Deep.DeepCutAuto
import Derived.Deep.LoopGhost
import Derived.Deep.QuietTactic
import Derived.BigQuiet
import Derived.Test.YtigkhmppnnljiaaGreatDoorFlatA14
namespace Go.Proofs.YtigkhmppnnljiaaGreatDoor
open Go.RowKit

set_option maxHeartbeats 4000000 in
set_option maxRecDepth 100000 in
theorem bare_to (k d a b : Int) (l : List Int) (o : Option Addr) (len cap : Nat) (B : Nat) (w : World) (hk : -9223372036854775808 ≤ k ∧ k ≤ 9223372036854775807) (hd : -9223372036854775808 ≤ d ∧ d ≤ 9223372036854775807) (ha : -9223372036854775808 ≤ a ∧ a ≤ 9223372036854775807) (hb : -9223372036854775808 ≤ b ∧ b ≤ 9223372036854775807) (hv : SlC w B 1 IntR l (.slice o len cap)) (hB : B ≤ w.heap.size) (hmx : l.length ≤ 1000000) (h0 : 0 ≤ k) (h1 : k ≤ 22) (r : Bool) (hr : Unt.bare ⟨k, d, a, b, l⟩ = r) :
    Calls Tryz.prog 66 #[.agg #[.int .i64 k, .int .i64 d, .int .i64 a, .int .i64 b, .slice o len cap]] w fun e w' => e = .returned (.bool r) ∧ Below w.heap.size w w' := by
  obtain ⟨g, hg⟩ : ∃ g, Unt.gives ⟨k, d, a, b, l⟩ = g := ⟨_, rfl⟩
  obtain ⟨q1, hq1⟩ : ∃ q1, (decide (g < 0) && decide (d ≠ 0)) = q1 := ⟨_, rfl⟩
  obtain ⟨q2, hq2⟩ : ∃ q2, (decide (a ≠ 0) && (decide (k = 3) || decide (k = 4))) = q2 := ⟨_, rfl⟩
  obtain ⟨q3, hq3⟩ : ∃ q3, (decide (b ≠ 0) && (decide (k ≠ 12) && (decide (k ≠ 13) && (decide (k ≠ 16) && (decide (k ≠ 18) && decide (k ≠ 20)))))) = q3 := ⟨_, rfl⟩
  obtain ⟨q4, hq4⟩ : ∃ q4, (decide (l.length = 0) || ((decide (7 ≤ k) && decide (k ≤ 9)) || (decide (17 ≤ k) && decide (k ≤ 21)))) = q4 := ⟨_, rfl⟩
  have HR := Lib.hid (show (!q1 && (!q2 && (!q3 && q4))) = r from by rw [← hr, Unt.bare, hg, ← hq1, ← hq2, ← hq3, ← hq4])
  have Hq1 := Lib.hid hq1
  have Hq2 := Lib.hid hq2
  have Hq3 := Lib.hid hq3
  have Hq4 := Lib.hid hq4
  have HGV := Lib.hid hg
  obtain ⟨hlen, hcap, hmax⟩ := hv.lens
  have HL := Lib.hid hlen
  have HC := Lib.hid (fun X => named_any ⟨k, d, a, b, l⟩ _ _ _ _ _ B (w.alloc X) ⟨.slice o len cap, rfl, hk, hd, ha, hb, hv.kept ((Below.one w X).mono hB) fun _ _ _ h => h⟩ (by simp; omega) hmx h0 h1)
  clear hr hv hg hlen hq1 hq2 hq3 hq4
  go_enter Tryz.func66, Tryz.ntmps66
  go_wp2_with fail
  refine (HC.out _).mono ?_
  rintro e w1 ⟨sl, rfl, _, hb1⟩
  rw [HGV.out]
  have bx : BoxL w1 w.heap.size 34 [.int .i64 k, .int .i64 d, .int .i64 a, .int .i64 b, .slice o len cap] := (BoxL.new rfl _ _).keep hb1
  have x0 := bx.cell 0 rfl
  have x1 := bx.cell 1 rfl
  have x2 := bx.cell 2 rfl
  have x3 := bx.cell 3 rfl
  have x4 := bx.cell 4 rfl
  have HB1 := Lib.hid (one_below hb1)
  clear hb1 bx HC
  go_upto_region 2 with fail
  go_cut [16] (fun c wx => c = .bool q1 ∧ w1 = wx)
  case first => as_aux_lemma =>
    by_cases hg : g < 0
    · have f1 : decide (g < 0) = true := decide_eq_true hg
      by_cases hd0 : d = 0
      · subst hd0
        obtain rfl : q1 = false := by rw [← Hq1.out]; simp
        go_wp2_with fail
        go_meet
        exact ⟨rfl, rfl⟩
      · have f2 : (d != 0) = true := by simpa using hd0
        obtain rfl : q1 = true := by rw [← Hq1.out]; simp [hg, hd0]
        go_wp2_with fail
        go_meet
        exact ⟨rfl, rfl⟩
    · have f1 : decide (g < 0) = false := decide_eq_false hg
      obtain rfl : q1 = false := by rw [← Hq1.out]; simp [hg]
      go_wp2_with fail
      go_meet
      exact ⟨rfl, rfl⟩
  case rest =>
    obtain ⟨rfl, rfl⟩ := hcut
    cases q1 with
    | true =>
      obtain rfl : r = false := by rw [← HR.out]; simp
      go_wp2_with fail
      go_ret
      exact ⟨rfl, HB1.out⟩
    | false =>
      go_upto_region 4 with fail
      go_cut [29] (fun c wx => c = .bool q2 ∧ w1 = wx)
      case first => as_aux_lemma =>
        by_cases ha0 : a = 0
        · subst ha0
          obtain rfl : q2 = false := by rw [← Hq2.out]; simp
          go_wp2_with fail
          go_meet
          exact ⟨rfl, rfl⟩
        have f2 : (a != 0) = true := by simpa using ha0
        by_cases k3 : k = 3
        · subst k3
          obtain rfl : q2 = true := by rw [← Hq2.out]; simp [ha0]
          go_wp2_with fail
          go_meet
          exact ⟨rfl, rfl⟩
        have f3 : (k == 3) = false := by simpa using k3
        by_cases k4 : k = 4
        · subst k4
          obtain rfl : q2 = true := by rw [← Hq2.out]; simp [ha0]
          go_wp2_with fail
          go_meet
          exact ⟨rfl, rfl⟩
        have f4 : (k == 4) = false := by simpa using k4
        obtain rfl : q2 = false := by rw [← Hq2.out]; simp [k3, k4]
        go_wp2_with fail
        go_meet
        exact ⟨rfl, rfl⟩
      case rest =>
        obtain ⟨rfl, rfl⟩ := hcut
        cases q2 with
        | true =>
          obtain rfl : r = false := by rw [← HR.out]; simp
          go_wp2_with fail
          go_ret
          exact ⟨rfl, HB1.out⟩
        | false =>
          go_upto_region 6 with fail
          go_cut [57] (fun c wx => c = .bool q3 ∧ w1 = wx)
          case first => as_aux_lemma =>
            by_cases hb0 : b = 0
            · subst hb0
              obtain rfl : q3 = false := by rw [← Hq3.out]; simp
              go_wp2_with fail
              go_meet
              exact ⟨rfl, rfl⟩
            have f2 : (b != 0) = true := by simpa using hb0
            by_cases k12 : k = 12
            · subst k12
              obtain rfl : q3 = false := by rw [← Hq3.out]; simp
              go_wp2_with fail
              go_meet
              exact ⟨rfl, rfl⟩
            have f12 : (k != 12) = true := by simpa using k12
            by_cases k13 : k = 13
            · subst k13
              obtain rfl : q3 = false := by rw [← Hq3.out]; simp
              go_wp2_with fail
              go_meet
              exact ⟨rfl, rfl⟩
            have f13 : (k != 13) = true := by simpa using k13
            by_cases k16 : k = 16
            · subst k16
              obtain rfl : q3 = false := by rw [← Hq3.out]; simp
              go_wp2_with fail
              go_meet
              exact ⟨rfl, rfl⟩
            have f16 : (k != 16) = true := by simpa using k16
            by_cases k18 : k = 18
            · subst k18
              obtain rfl : q3 = false := by rw [← Hq3.out]; simp
              go_wp2_with fail
              go_meet
              exact ⟨rfl, rfl⟩
            have f18 : (k != 18) = true := by simpa using k18
            by_cases k20 : k = 20
            · subst k20
              obtain rfl : q3 = false := by rw [← Hq3.out]; simp
              go_wp2_with fail
              go_meet
              exact ⟨rfl, rfl⟩
            have f20 : (k != 20) = true := by simpa using k20
            obtain rfl : q3 = true := by rw [← Hq3.out]; simp [hb0, k12, k13, k16, k18, k20]
            go_wp2_with fail
            go_meet
            exact ⟨rfl, rfl⟩
          case rest =>
            obtain ⟨rfl, rfl⟩ := hcut
            cases q3 with
            | true =>
              obtain rfl : r = false := by rw [← HR.out]; simp
              go_wp2_with fail
              go_ret
              exact ⟨rfl, HB1.out⟩
            | false =>
              obtain rfl : q4 = r := by rw [← HR.out]; simp
              by_cases hl0 : len = 0
              · subst hl0
                obtain rfl : q4 = true := by rw [← Hq4.out, decide_eq_true (show l.length = 0 from HL.out.symm)]; rfl
                go_wp2_with fail
                go_ret
                exact ⟨rfl, HB1.out⟩
              have hl0' : (len == 0) = false := by simpa using hl0
              have hl1 : ¬ l.length = 0 := by rw [← HL.out]; exact hl0
              have hl2 : ((len : Int) == 0) = false := by simpa using hl0
              rw [decide_eq_false hl1] at Hq4
              clear hl1
              by_cases k7 : 7 ≤ k
              · have f7 : decide (7 ≤ k) = true := decide_eq_true k7
                by_cases k9 : k ≤ 9
                · have f9 : decide (k ≤ 9) = true := decide_eq_true k9
                  obtain rfl : q4 = true := by rw [← Hq4.out]; simp [k7, k9]
                  go_wp2_with fail
                  go_ret
                  exact ⟨rfl, HB1.out⟩
                have f9 : decide (k ≤ 9) = false := decide_eq_false k9
                by_cases k17 : 17 ≤ k
                · have f17 : decide (17 ≤ k) = true := decide_eq_true k17
                  by_cases k21 : k ≤ 21
                  · have f21 : decide (k ≤ 21) = true := decide_eq_true k21
                    obtain rfl : q4 = true := by rw [← Hq4.out]; simp [k17, k21]
                    go_wp2_with fail
                    go_ret
                    exact ⟨rfl, HB1.out⟩
                  · have f21 : decide (k ≤ 21) = false := decide_eq_false k21
                    obtain rfl : q4 = false := by rw [← Hq4.out]; simp [k9, k21]
                    go_wp2_with fail
                    go_ret
                    exact ⟨rfl, HB1.out⟩
                · have f17 : decide (17 ≤ k) = false := decide_eq_false k17
                  obtain rfl : q4 = false := by rw [← Hq4.out]; simp [k9, k17]
                  go_wp2_with fail
                  go_ret
                  exact ⟨rfl, HB1.out⟩
              · have f7 : decide (7 ≤ k) = false := decide_eq_false k7
                have k17 : ¬ 17 ≤ k := by omega
                have f17 : decide (17 ≤ k) = false := decide_eq_false k17
                obtain rfl : q4 = false := by rw [← Hq4.out]; simp [k7, k17]
                go_wp2_with fail
                go_ret
                exact ⟨rfl, HB1.out⟩
end Go.Proofs.YtigkhmppnnljiaaGreatDoor

namespace Go.Proofs.YtigkhmppnnljiaaGreatDoor
open Go.RowKit

theorem three_below (w : World) (X Y Z : Obj) : Below w.heap.size w (((w.alloc X).alloc Y).alloc Z) := (((Below.refl _ _).alloc (Nat.le_refl _) _).alloc (by simp) _).alloc (by simp; omega) _
theorem all_no {p : Int → Bool} {l : List Int} {j : Nat} {y : Int} (h : l[j]? = some y) (hy : p y = false) : l.all p = false := by
  rw [List.all_eq_false]; exact ⟨y, List.mem_of_getElem? h, by simp [hy]⟩
theorem all_snoc {p : Int → Bool} {l : List Int} {j : Nat} {y : Int} (h : l[j]? = some y) (ha : (l.take j).all p = true) (hy : p y = true) : (l.take (j + 1)).all p = true := by
  rw [List.take_add_one, h]; simp [List.all_append, ha, hy]

set_option maxHeartbeats 8000000 in
set_option maxRecDepth 100000 in
theorem ins_to (k d a b : Int) (l : List Int) (o : Option Addr) (len cap : Nat) (args regs : Int) (rest : Bool) (oc oa ok op : Option Addr) (lc cc la ca lk ck lp cp : Nat) (B : Nat) (w : World) (hk : -9223372036854775808 ≤ k ∧ k ≤ 9223372036854775807) (hd : -9223372036854775808 ≤ d ∧ d ≤ 9223372036854775807) (ha : -9223372036854775808 ≤ a ∧ a ≤ 9223372036854775807) (hb : -9223372036854775808 ≤ b ∧ b ≤ 9223372036854775807) (hv : SlC w B 1 IntR l (.slice o len cap)) (hB : B ≤ w.heap.size) (hmx : l.length ≤ 1000000) (r : Bool) (hr : Unt.ins ⟨k, d, a, b, l⟩ regs lc lp lk = r) :
    Calls Tryz.prog 36 #[.agg #[.int .i64 k, .int .i64 d, .int .i64 a, .int .i64 b, .slice o len cap], .agg #[.int .i64 args, .bool rest, .int .i64 regs, .slice oc lc cc, .slice oa la ca], .agg #[.slice ok lk ck, .slice op lp cp]] w fun e w' => e = .returned (.bool r) ∧ Below w.heap.size w w' := by
  by_cases k0 : k < 0
  · obtain rfl : false = r := by rw [← hr]; simp [Unt.ins, Unt.isOp]; omega
    have f0 : decide (k < 0) = true := decide_eq_true k0
    clear hr hv
    go_enter Tryz.func36, Tryz.ntmps36
    go_wp2_with fail
    go_ret
    exact ⟨rfl, three_below _ _ _ _⟩
  by_cases k22 : 22 < k
  · obtain rfl : false = r := by rw [← hr]; simp [Unt.ins, Unt.isOp]; omega
    have f0 : decide (k < 0) = false := decide_eq_false k0
    have f1 : decide (22 < k) = true := decide_eq_true k22
    clear hr hv
    go_enter Tryz.func36, Tryz.ntmps36
    go_wp2_with fail
    go_ret
    exact ⟨rfl, three_below _ _ _ _⟩
  have f0 : decide (k < 0) = false := decide_eq_false k0
  have f1 : decide (22 < k) = false := decide_eq_false k22
  obtain ⟨g, hg⟩ : ∃ g, Unt.gives ⟨k, d, a, b, l⟩ = g := ⟨_, rfl⟩
  obtain ⟨q, hq⟩ : ∃ q, Unt.bare ⟨k, d, a, b, l⟩ = q := ⟨_, rfl⟩
  obtain ⟨nl, hnl⟩ : ∃ nl, Unt.named ⟨k, d, a, b, l⟩ = nl := ⟨_, rfl⟩
  obtain ⟨rT, hT⟩ : ∃ rT, Unt.tailOk ⟨k, d, a, b, l⟩ lc lp lk = rT := ⟨_, rfl⟩
  have HR := Lib.hid (show (q && (nl.all (Unt.below · regs) && (!(decide (regs ≤ g) || (decide (g < -1) || decide (d < 0))) && rT))) = r from by
    rw [← hr, Unt.ins, hg, hq, hnl, hT, show Unt.isOp k = true from by simp [Unt.isOp]; omega]; rfl)
  have HT := Lib.hid hT
  have HG := Lib.hid hg
  have HNL := Lib.hid hnl
  have HV := Lib.hid hv
  have HBA := Lib.hid (fun X Y Z => bare_to k d a b l o len cap B (((w.alloc X).alloc Y).alloc Z) hk hd ha hb (hv.kept ((three_below w X Y Z).mono hB) fun _ _ _ h => h) (by simp; omega) hmx (by omega) (by omega) q hq)
  have HNM := Lib.hid (fun W (hW : Below w.heap.size w W) => named_any ⟨k, d, a, b, l⟩ _ _ _ _ _ B W ⟨.slice o len cap, rfl, hk, hd, ha, hb, hv.kept (hW.mono hB) fun _ _ _ h => h⟩ (by have := hW.size; omega) hmx (by dsimp only; omega) (by dsimp only; omega))
  clear hr hv hg hq hnl hT
  go_enter Tryz.func36, Tryz.ntmps36
  go_wp2_with fail
  refine (HBA.out _ _ _).mono ?_
  rintro e w1 ⟨rfl, hb1⟩
  obtain ⟨bx, bp, bu, hb⟩ := three_boxes hb1
  have HB1 := Lib.hid hb
  clear hb1 hb HBA
  cases q with
  | false =>
    obtain rfl : r = false := by rw [← HR.out]; rfl
    go_wp2_with fail
    go_ret
    exact ⟨rfl, HB1.out⟩
  | true =>
    have x0 := bx.cell 0 rfl
    have x1 := bx.cell 1 rfl
    have x2 := bx.cell 2 rfl
    have x3 := bx.cell 3 rfl
    have x4 := bx.cell 4 rfl
    go_wp2_with fail
    refine (HNM.out _ HB1.out).mono ?_
    rintro e w2 ⟨sl, rfl, hs, hb2⟩
    rw [HNL.out] at hs
    rw [HG.out]
    obtain ⟨o2, n2, c2, rfl⟩ := hs.form
    obtain ⟨hn2, hc2, hm2⟩ := hs.lens
    have HN2 := Lib.hid hn2
    have HS := Lib.hid hs
    have HB2 := Lib.hid (Below.next HB1.out hb2)
    have bx2 := bx.keep hb2
    have bp2 := bp.keep hb2
    have bu2 := bu.keep hb2
    have HX := Lib.hid bx2
    have HP := Lib.hid bp2
    have HU := Lib.hid bu2
    clear hn2 hs hb2 bx bp bu bx2 bp2 bu2 HNM x0 x1 x2 x3 x4
    go_wp2_with fail
    go_loopg [9] n2 (fun g i wr => ∃ j : Nat, g = n2 - j ∧ j ≤ n2 ∧ i = .int .i64 j ∧ Hid ((nl.take j).all (Unt.below · regs) = true) ∧ ∃ nd, wr = w2.drewN nd)
    case atStart => exact ⟨0, rfl, by omega, rfl, rfl, 0, rfl⟩
    case round =>
      obtain ⟨j, rfl, hj, rfl, HA, nd, rfl⟩ := hrel
      by_cases hjl : j < n2
      · obtain ⟨y, hy⟩ : ∃ y, nl[j]? = some y := ⟨_, List.getElem?_eq_getElem (by rw [← HN2.out]; exact hjl)⟩
        obtain ⟨b2, off2, cs, ho2, _, _, hcell, hR⟩ := HS.out.at (Below.refl _ _) hy
        subst ho2
        obtain ⟨rfl, _⟩ := hR
        have e0 := hcell 0 _ rfl
        rw [Nat.mul_one, Nat.add_zero] at e0
        have e1 : w2.cell? ⟨b2, off2 + j, none⟩ = some (.int .i64 y) := e0
        have p2 : w2.cell? ⟨w.heap.size + 1, 2, none⟩ = some (.int .i64 regs) := HP.out.cell 2 rfl
        have HY := Lib.hid hy
        clear hy hcell e0
        by_cases y0 : y < 0
        · have g0 : decide (y < 0) = true := decide_eq_true y0
          obtain rfl : r = false := by rw [← HR.out, all_no HY.out (by simp [Unt.below]; omega)]; rfl
          go_wp2_with fail
          go_quiet (fail)
          go_wp2_with fail
          go_ret
          exact ⟨rfl, Below.drewN (Below.drewN HB2.out _) _⟩
        have g0 : decide (y < 0) = false := decide_eq_false y0
        by_cases y1 : regs ≤ y
        · have g1 : decide (regs ≤ y) = true := decide_eq_true y1
          obtain rfl : r = false := by rw [← HR.out, all_no HY.out (by simp [Unt.below]; omega)]; rfl
          go_wp2_with fail
          go_quiet (fail)
          go_wp2_with fail
          go_ret
          exact ⟨rfl, Below.drewN (Below.drewN HB2.out _) _⟩
        have g1 : decide (regs ≤ y) = false := decide_eq_false y1
        have HA2 := Lib.hid (all_snoc HY.out HA.out (show Unt.below y regs = true from by simp [Unt.below]; omega))
        go_wp2_with fail
        go_quiet (fail)
        go_wp2_with fail
        go_roundg (n2 - (j + 1))
        case measure => omega
        case rel => exact ⟨j + 1, rfl, by omega, by go_num, HA2, _, rfl⟩
      · obtain rfl : j = n2 := by omega
        have HAL := Lib.hid (show nl.all (Unt.below · regs) = true from by rw [← HA.out, List.take_of_length_le (by rw [← HN2.out]; exact Nat.le_refl _)])
        rw [HAL.out] at HR
        have x0 : w2.cell? ⟨w.heap.size, 0, none⟩ = some (.int .i64 k) := HX.out.cell 0 rfl
        have x1 : w2.cell? ⟨w.heap.size, 1, none⟩ = some (.int .i64 d) := HX.out.cell 1 rfl
        have x2 : w2.cell? ⟨w.heap.size, 2, none⟩ = some (.int .i64 a) := HX.out.cell 2 rfl
        have x3 : w2.cell? ⟨w.heap.size, 3, none⟩ = some (.int .i64 b) := HX.out.cell 3 rfl
        have p2 : w2.cell? ⟨w.heap.size + 1, 2, none⟩ = some (.int .i64 regs) := HP.out.cell 2 rfl
        have p3 : w2.cell? ⟨w.heap.size + 1, 3, none⟩ = some (.slice oc lc cc) := HP.out.cell 3 rfl
        have u0 : w2.cell? ⟨w.heap.size + 1 + 1, 0, none⟩ = some (.slice ok lk ck) := HU.out.cell 0 rfl
        have u1 : w2.cell? ⟨w.heap.size + 1 + 1, 1, none⟩ = some (.slice op lp cp) := HU.out.cell 1 rfl
        have HBE := Lib.hid (Below.drewN HB2.out nd)
        by_cases c1 : regs ≤ g
        · have h1 : decide (regs ≤ g) = true := decide_eq_true c1
          obtain rfl : r = false := by rw [← HR.out, h1]; simp
          go_wp2_with fail
          go_ret
          exact ⟨rfl, HBE.out⟩
        have h1 : decide (regs ≤ g) = false := decide_eq_false c1
        by_cases c2 : g < -1
        · have h2 : decide (g < -1) = true := decide_eq_true c2
          obtain rfl : r = false := by rw [← HR.out, h2]; simp
          go_wp2_with fail
          go_ret
          exact ⟨rfl, HBE.out⟩
        have h2 : decide (g < -1) = false := decide_eq_false c2
        by_cases c3 : d < 0
        · have h3 : decide (d < 0) = true := decide_eq_true c3
          obtain rfl : r = false := by rw [← HR.out, h3]; simp
          go_wp2_with fail
          go_ret
          exact ⟨rfl, HBE.out⟩
        have h3 : decide (d < 0) = false := decide_eq_false c3
        obtain rfl : rT = r := by rw [← HR.out, h1, h2, h3]; rfl
        by_cases k0' : k = 0
        · subst k0'
          by_cases z0 : 0 ≤ a
          · have s0 : decide (0 ≤ a) = true := decide_eq_true z0
            by_cases z1 : a < (lk : Int)
            · have s1 : decide (a < (lk : Int)) = true := decide_eq_true z1
              obtain rfl : rT = true := by rw [← HT.out]; simp [Unt.tailOk, Unt.below]; omega
              go_wp2_with fail
              go_ret
              exact ⟨rfl, HBE.out⟩
            · have s1 : decide (a < (lk : Int)) = false := decide_eq_false z1
              obtain rfl : rT = false := by rw [← HT.out]; simp [Unt.tailOk, Unt.below]; omega
              go_wp2_with fail
              go_ret
              exact ⟨rfl, HBE.out⟩
          · have s0 : decide (0 ≤ a) = false := decide_eq_false z0
            obtain rfl : rT = false := by rw [← HT.out]; simp [Unt.tailOk, Unt.below]; omega
            go_wp2_with fail
            go_ret
            exact ⟨rfl, HBE.out⟩
        have t0 : (k == 0) = false := by simpa using k0'
        by_cases k2' : k = 2
        · subst k2'
          by_cases z0 : 0 ≤ a
          · have s0 : decide (0 ≤ a) = true := decide_eq_true z0
            by_cases z1 : a ≤ 30
            · have s1 : decide (a ≤ 30) = true := decide_eq_true z1
              obtain rfl : rT = true := by rw [← HT.out]; simp [Unt.tailOk, Unt.below]; omega
              go_wp2_with fail
              go_ret
              exact ⟨rfl, HBE.out⟩
            · have s1 : decide (a ≤ 30) = false := decide_eq_false z1
              obtain rfl : rT = false := by rw [← HT.out]; simp [Unt.tailOk, Unt.below]; omega
              go_wp2_with fail
              go_ret
              exact ⟨rfl, HBE.out⟩
          · have s0 : decide (0 ≤ a) = false := decide_eq_false z0
            obtain rfl : rT = false := by rw [← HT.out]; simp [Unt.tailOk, Unt.below]; omega
            go_wp2_with fail
            go_ret
            exact ⟨rfl, HBE.out⟩
        have t2 : (k == 2) = false := by simpa using k2'
        by_cases k9' : k = 9
        · subst k9'
          by_cases z0 : 0 ≤ a
          · have s0 : decide (0 ≤ a) = true := decide_eq_true z0
            by_cases z1 : a ≤ 30
            · have s1 : decide (a ≤ 30) = true := decide_eq_true z1
              obtain rfl : rT = true := by rw [← HT.out]; simp [Unt.tailOk, Unt.below]; omega
              go_wp2_with fail
              go_ret
              exact ⟨rfl, HBE.out⟩
            · have s1 : decide (a ≤ 30) = false := decide_eq_false z1
              obtain rfl : rT = false := by rw [← HT.out]; simp [Unt.tailOk, Unt.below]; omega
              go_wp2_with fail
              go_ret
              exact ⟨rfl, HBE.out⟩
          · have s0 : decide (0 ≤ a) = false := decide_eq_false z0
            obtain rfl : rT = false := by rw [← HT.out]; simp [Unt.tailOk, Unt.below]; omega
            go_wp2_with fail
            go_ret
            exact ⟨rfl, HBE.out⟩
        have t9 : (k == 9) = false := by simpa using k9'
        by_cases k5' : k = 5
        · subst k5'
          by_cases z0 : 0 ≤ a
          · have s0 : decide (0 ≤ a) = true := decide_eq_true z0
            by_cases z1 : a < (lp : Int)
            · have s1 : decide (a < (lp : Int)) = true := decide_eq_true z1
              obtain rfl : rT = true := by rw [← HT.out]; simp [Unt.tailOk, Unt.below]; omega
              go_wp2_with fail
              go_ret
              exact ⟨rfl, HBE.out⟩
            · have s1 : decide (a < (lp : Int)) = false := decide_eq_false z1
              obtain rfl : rT = false := by rw [← HT.out]; simp [Unt.tailOk, Unt.below]; omega
              go_wp2_with fail
              go_ret
              exact ⟨rfl, HBE.out⟩
          · have s0 : decide (0 ≤ a) = false := decide_eq_false z0
            obtain rfl : rT = false := by rw [← HT.out]; simp [Unt.tailOk, Unt.below]; omega
            go_wp2_with fail
            go_ret
            exact ⟨rfl, HBE.out⟩
        have t5 : (k == 5) = false := by simpa using k5'
        by_cases k7' : k = 7
        · subst k7'
          by_cases z0 : 0 ≤ a
          · have s0 : decide (0 ≤ a) = true := decide_eq_true z0
            by_cases z1 : a < (lp : Int)
            · have s1 : decide (a < (lp : Int)) = true := decide_eq_true z1
              obtain rfl : rT = true := by rw [← HT.out]; simp [Unt.tailOk, Unt.below]; omega
              go_wp2_with fail
              go_ret
              exact ⟨rfl, HBE.out⟩
            · have s1 : decide (a < (lp : Int)) = false := decide_eq_false z1
              obtain rfl : rT = false := by rw [← HT.out]; simp [Unt.tailOk, Unt.below]; omega
              go_wp2_with fail
              go_ret
              exact ⟨rfl, HBE.out⟩
          · have s0 : decide (0 ≤ a) = false := decide_eq_false z0
            obtain rfl : rT = false := by rw [← HT.out]; simp [Unt.tailOk, Unt.below]; omega
            go_wp2_with fail
            go_ret
            exact ⟨rfl, HBE.out⟩
        have t7 : (k == 7) = false := by simpa using k7'
        by_cases k18' : k = 18
        · subst k18'
          by_cases z0 : 0 ≤ a
          · have s0 : decide (0 ≤ a) = true := decide_eq_true z0
            by_cases z1 : a < (lp : Int)
            · have s1 : decide (a < (lp : Int)) = true := decide_eq_true z1
              obtain rfl : rT = true := by rw [← HT.out]; simp [Unt.tailOk, Unt.below]; omega
              go_wp2_with fail
              go_ret
              exact ⟨rfl, HBE.out⟩
            · have s1 : decide (a < (lp : Int)) = false := decide_eq_false z1
              obtain rfl : rT = false := by rw [← HT.out]; simp [Unt.tailOk, Unt.below]; omega
              go_wp2_with fail
              go_ret
              exact ⟨rfl, HBE.out⟩
          · have s0 : decide (0 ≤ a) = false := decide_eq_false z0
            obtain rfl : rT = false := by rw [← HT.out]; simp [Unt.tailOk, Unt.below]; omega
            go_wp2_with fail
            go_ret
            exact ⟨rfl, HBE.out⟩
        have t18 : (k == 18) = false := by simpa using k18'
        by_cases k20' : k = 20
        · subst k20'
          by_cases z0 : 0 ≤ a
          · have s0 : decide (0 ≤ a) = true := decide_eq_true z0
            by_cases z1 : a < (lp : Int)
            · have s1 : decide (a < (lp : Int)) = true := decide_eq_true z1
              obtain rfl : rT = true := by rw [← HT.out]; simp [Unt.tailOk, Unt.below]; omega
              go_wp2_with fail
              go_ret
              exact ⟨rfl, HBE.out⟩
            · have s1 : decide (a < (lp : Int)) = false := decide_eq_false z1
              obtain rfl : rT = false := by rw [← HT.out]; simp [Unt.tailOk, Unt.below]; omega
              go_wp2_with fail
              go_ret
              exact ⟨rfl, HBE.out⟩
          · have s0 : decide (0 ≤ a) = false := decide_eq_false z0
            obtain rfl : rT = false := by rw [← HT.out]; simp [Unt.tailOk, Unt.below]; omega
            go_wp2_with fail
            go_ret
            exact ⟨rfl, HBE.out⟩
        have t20 : (k == 20) = false := by simpa using k20'
        by_cases k6' : k = 6
        · subst k6'
          have s0 : decide (0 ≤ a) = rT := by rw [← HT.out]; simp [Unt.tailOk]
          go_wp2_with fail
          go_ret
          exact ⟨rfl, HBE.out⟩
        have t6 : (k == 6) = false := by simpa using k6'
        by_cases k15' : k = 15
        · subst k15'
          by_cases z0 : 0 ≤ a
          · have s0 : decide (0 ≤ a) = true := decide_eq_true z0
            by_cases z1 : a < (lc : Int)
            · have s1 : decide (a < (lc : Int)) = true := decide_eq_true z1
              obtain rfl : rT = true := by rw [← HT.out]; simp [Unt.tailOk, Unt.below]; omega
              go_wp2_with fail
              go_ret
              exact ⟨rfl, HBE.out⟩
            · have s1 : decide (a < (lc : Int)) = false := decide_eq_false z1
              obtain rfl : rT = false := by rw [← HT.out]; simp [Unt.tailOk, Unt.below]; omega
              go_wp2_with fail
              go_ret
              exact ⟨rfl, HBE.out⟩
          · have s0 : decide (0 ≤ a) = false := decide_eq_false z0
            obtain rfl : rT = false := by rw [← HT.out]; simp [Unt.tailOk, Unt.below]; omega
            go_wp2_with fail
            go_ret
            exact ⟨rfl, HBE.out⟩
        have t15 : (k == 15) = false := by simpa using k15'
        by_cases k16' : k = 16
        · subst k16'
          by_cases z0 : 0 ≤ b
          · have s0 : decide (0 ≤ b) = true := decide_eq_true z0
            by_cases z1 : b < (lc : Int)
            · have s1 : decide (b < (lc : Int)) = true := decide_eq_true z1
              obtain rfl : rT = true := by rw [← HT.out]; simp [Unt.tailOk, Unt.below]; omega
              go_wp2_with fail
              go_ret
              exact ⟨rfl, HBE.out⟩
            · have s1 : decide (b < (lc : Int)) = false := decide_eq_false z1
              obtain rfl : rT = false := by rw [← HT.out]; simp [Unt.tailOk, Unt.below]; omega
              go_wp2_with fail
              go_ret
              exact ⟨rfl, HBE.out⟩
          · have s0 : decide (0 ≤ b) = false := decide_eq_false z0
            obtain rfl : rT = false := by rw [← HT.out]; simp [Unt.tailOk, Unt.below]; omega
            go_wp2_with fail
            go_ret
            exact ⟨rfl, HBE.out⟩
        have t16 : (k == 16) = false := by simpa using k16'
        by_cases k21' : k = 21
        · subst k21'
          by_cases a29 : a = 29
          · subst a29
            obtain rfl : rT = true := by rw [← HT.out]; simp [Unt.tailOk]
            go_wp2_with fail
            go_ret
            exact ⟨rfl, HBE.out⟩
          have s29 : (a == 29) = false := by simpa using a29
          by_cases a30 : a = 30
          · subst a30
            obtain rfl : rT = true := by rw [← HT.out]; simp [Unt.tailOk]
            go_wp2_with fail
            go_ret
            exact ⟨rfl, HBE.out⟩
          have s30 : (a == 30) = false := by simpa using a30
          obtain rfl : rT = false := by rw [← HT.out]; simp [Unt.tailOk, a29, a30]
          go_wp2_with fail
          go_ret
          exact ⟨rfl, HBE.out⟩
        have t21 : (k == 21) = false := by simpa using k21'
        obtain rfl : rT = true := by rw [← HT.out]; simp [Unt.tailOk, k0', k2', k9', k5', k7', k18', k20', k6', k15', k16', k21']
        go_wp2_with fail
        go_ret
        exact ⟨rfl, HBE.out⟩
end Go.Proofs.YtigkhmppnnljiaaGreatDoor

/-
  The walk of PrimsNames.
-/
import Derived.Test.YtnpiekniignfcaaGreatDoorLaw05
namespace Go.Proofs.YtnpiekniignfcaaGreatDoor
open Go.RowKit

/-! ### plain -/
theorem names_all : ∀ i : Nat, i < 31 → (Prims.find (Prims.facts i).name == ((i : Int), true) && ((!(Prims.facts i).folds || (Prims.facts i).pure) && (decide (0 ≤ (Prims.facts i).least) && (decide ((Prims.facts i).most = -1) || decide ((Prims.facts i).least ≤ (Prims.facts i).most))))) = true := by decide +kernel
theorem names_apart : ∀ i : Nat, i < 31 → ∀ j : Nat, j < 31 → (decide (i = j) || !decide ((Prims.facts i).name = (Prims.facts j).name)) = true := by decide +kernel

set_option maxHeartbeats 4000000 in
set_option maxRecDepth 100000 in
theorem primsNames_walk (n m : Int) (h0 : -9223372036854775808 ≤ n) (h1 : n ≤ 9223372036854775807) (h2 : -9223372036854775808 ≤ m) (h3 : m ≤ 9223372036854775807) (w : World) :
    Calls Tryz.prog 8 #[.int .i64 n, .int .i64 m] w fun e w' => e = .returned (.bool true) ∧ Below w.heap.size w w' := by
  obtain ⟨c, hc⟩ : ∃ c, Prims.has m = c := ⟨_, rfl⟩
  obtain ⟨g0, g1, g2, g3, g4, hG⟩ : ∃ f0 f1 f2 f3 f4, Prims.facts m = ⟨f0, f1, f2, f3, f4⟩ := ⟨_, _, _, _, _, rfl⟩
  obtain ⟨f0, f1, f2, f3, f4, hF⟩ : ∃ f0 f1 f2 f3 f4, Prims.facts n = ⟨f0, f1, f2, f3, f4⟩ := ⟨_, _, _, _, _, rfl⟩
  have HF2 := Lib.hid (fun W => facts_to m g0 g1 g2 g3 g4 c hG hc h2 h3 W)
  by_cases hn : 0 ≤ n ∧ n ≤ 30
  · have hb : Prims.has n = true := by simp [Prims.has]; omega
    have HF1 := Lib.hid (fun W => facts_to n f0 f1 f2 f3 f4 true hF hb h0 h1 W)
    obtain ⟨i, rfl⟩ : ∃ i : Nat, n = i := ⟨n.toNat, by omega⟩
    have hall := names_all i (by omega)
    rw [hF] at hall
    simp only [Bool.and_eq_true, beq_iff_eq, Bool.or_eq_true, decide_eq_true_eq, Bool.not_eq_true'] at hall
    obtain ⟨hfind, hfold, hleast, hmost⟩ := hall
    have HFD := Lib.hid (fun W => find_any f0 W)
    rw [hfind] at HFD
    -- either the other is none, or the same, or of another name
    have hq : ((!c) || (decide ((i : Int) = m) || !(f0.toList == g0.toList))) = true := by
      cases c with
      | false => rfl
      | true =>
        have hm : 0 ≤ m ∧ m ≤ 30 := by simpa [Prims.has] using hc
        obtain ⟨j, rfl⟩ : ∃ j : Nat, m = j := ⟨m.toNat, by omega⟩
        have := names_apart i (by omega) j (by omega)
        rw [hF, hG] at this
        simp only [Bool.or_eq_true, decide_eq_true_eq, Bool.not_eq_true', decide_eq_false_iff_not] at this
        rcases this with h | h
        · simp [h]
        · have h5 : (f0.toList == g0.toList) = false := by
            rw [Bool.eq_false_iff]
            intro h3
            have e : f0 = g0 := by
              apply ByteArray.ext; apply Array.ext'
              rw [← ByteArray.toList_eq, ← ByteArray.toList_eq]; exact beq_iff_eq.1 h3
            exact h e
          simp [h5]
    have HQ := Lib.hid hq
    have HFO := Lib.hid hfold
    have hl : decide ((0 : Int) ≤ f1) = true := decide_eq_true hleast
    have HMO := Lib.hid hmost
    clear hc hG hF hb hfind hfold hmost hq
    have go : ∀ (b1 b2 b3 b4 : Bool), decide ((i : Int) = m) = b1 → ((i : Int) == m) = b1 → (f0.toList == g0.toList) = b2 → (f2 == -1) = b3 → decide (f1 ≤ f2) = b4 → Calls Tryz.prog 8 #[.int .i64 i, .int .i64 m] w fun e w' => e = .returned (.bool true) ∧ Below w.heap.size w w' := by
      intro b1 b2 b3 b4 e1 e1' e2 e3 e4
      have HQ2 := Lib.hid (show ((!c) || (b1 || !b2)) = true by rw [← e1, ← e2]; exact HQ.out)
      have HM2 := Lib.hid (show (b3 || b4) = true by
        rw [← e3, ← e4]
        rcases HMO.out with h | h
        · simp [h]
        · simp [h])
      have e5 : (f0.toList != g0.toList) = !b2 := by rw [← e2]; rfl
      have HFO2 := Lib.hid (show ((!f4) || f3) = true by
        rcases HFO.out with h | h
        · simp [h]
        · simp [h])
      clear HQ HMO HFO e1
      go_enter Tryz.func8, Tryz.ntmps8
      go_wp2_with fail
      refine (awake5_any w).mono ?_
      rintro e1 w1 ⟨rfl, hb1⟩
      have HB1 := Lib.hid hb1
      have hs1 := hb1.size
      clear hb1
      go_wp2_with fail
      refine (HF1.out _).mono ?_
      rintro e1 w2 ⟨rfl, hb2⟩
      have HB2 := Lib.hid (Below.next HB1.out hb2)
      have hs2 := HB2.out.size
      clear hb2
      go_wp2_with fail
      refine (HF2.out _).mono ?_
      rintro e1 w3 ⟨rfl, hb3⟩
      have HX3 := Lib.hid (show Box5 w3 w2.heap.size 32 (.string f0) (.int .i64 f1) (.int .i64 f2) (.bool f3) (.bool f4) from (hb3.block _ (by simp)).trans (Box5.new _ _ _ _ _ _ _))
      have HB3 := Lib.hid (Below.next (HB2.out.alloc hs2 _) hb3)
      have hs3 := HB3.out.size
      have hlt3 : w2.heap.size < w3.heap.size := HX3.out.lt
      obtain ⟨q0, q1, q2, q3, q4⟩ := HX3.out.cells
      clear hb3
      go_wp2_with fail
      refine (HFD.out _).mono ?_
      rintro e1 w4 ⟨rfl, hb4⟩
      have HX4 := Lib.hid (show Box5 w4 w2.heap.size 32 (.string f0) (.int .i64 f1) (.int .i64 f2) (.bool f3) (.bool f4) from (hb4.block _ (by simp; omega)).trans (HX3.out.alloc _))
      have HY4 := Lib.hid (show Box5 w4 w3.heap.size 32 (.string g0) (.int .i64 g1) (.int .i64 g2) (.bool g3) (.bool g4) from (hb4.block _ (by simp)).trans (Box5.new _ _ _ _ _ _ _))
      have HB4 := Lib.hid (Below.next (HB3.out.alloc hs3 _) hb4)
      have hs4 := HB4.out.size
      clear hb4 q0 q1 q2 q3 q4
      obtain ⟨q0, q1, q2, q3, q4⟩ := HX4.out.cells
      obtain ⟨y0, y1, y2, y3, y4⟩ := HY4.out.cells
      have hltX := HX4.out.lt
      have hltY := HY4.out.lt
      cases c <;> cases b1 <;> cases b2 <;> cases b3 <;> cases b4 <;> cases f3 <;> cases f4
      all_goals first
        | (exact absurd HQ2.out (by decide))
        | (exact absurd HM2.out (by decide))
        | (exact absurd HFO2.out (by decide))
        | (go_wp2_with fail; go_ret; exact ⟨rfl, HB4.out⟩)
        | fail
    exact go _ _ _ _ rfl (by rw [Bool.eq_iff_iff]; simp) rfl rfl rfl
  · have hb : Prims.has n = false := by simp [Prims.has]; omega
    have HF1 := Lib.hid (fun W => facts_to n f0 f1 f2 f3 f4 false hF hb h0 h1 W)
    clear hc hG hF hb
    have hlt : (decide (n < 0) = true) ∨ (decide (n < 0) = false ∧ decide (30 < n) = true) := by
      by_cases h : n < 0
      · exact .inl (decide_eq_true h)
      · exact .inr ⟨decide_eq_false h, decide_eq_true (by omega)⟩
    rcases hlt with hd | ⟨hd, hd2⟩
    all_goals
      go_enter Tryz.func8, Tryz.ntmps8
      go_wp2_with fail
      refine (awake5_any w).mono ?_
      rintro e1 w1 ⟨rfl, hb1⟩
      have HB1 := Lib.hid hb1
      have hs1 := hb1.size
      clear hb1
      go_wp2_with fail
      refine (HF1.out _).mono ?_
      rintro e1 w2 ⟨rfl, hb2⟩
      have HB2 := Lib.hid (Below.next HB1.out hb2)
      have hs2 := HB2.out.size
      clear hb2
      go_wp2_with fail
      refine (HF2.out _).mono ?_
      rintro e1 w3 ⟨rfl, hb3⟩
      have HB3 := Lib.hid (Below.next (HB2.out.alloc hs2 _) hb3)
      have hs3 := HB3.out.size
      clear hb3
      go_wp2_with fail
      go_ret
      exact ⟨rfl, HB3.out.alloc hs3 _⟩
end Go.Proofs.YtnpiekniignfcaaGreatDoor

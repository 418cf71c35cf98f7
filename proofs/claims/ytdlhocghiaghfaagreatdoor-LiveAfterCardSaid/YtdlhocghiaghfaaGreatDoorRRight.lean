/-
  The contracts of corbelref02.right and Right.
-/
import Derived.Test.YtdlhocghiaghfaaGreatDoorRName
import Derived.Test.YtdlhocghiaghfaaGreatDoorBoxes
namespace Go.Proofs.YtdlhocghiaghfaaGreatDoor
open Go.RowKit

theorem nameByte_str (b : UInt8) (h : Dat.nameByte b = true) : Dat.strByte b = true := by
  have h0 : ∀ n, n < 256 → Dat.nameByte (UInt8.ofNat n) = true → Dat.strByte (UInt8.ofNat n) = true := by decide +kernel
  have := h0 b.toNat (UInt8.toNat_lt b)
  rw [UInt8.ofNat_toNat] at this
  exact this h
theorem name_str {s : List UInt8} (h : Dat.name s = true) : s.all Dat.strByte = true := by
  unfold Dat.name at h
  simp only [Bool.and_eq_true] at h
  exact List.all_eq_true.2 fun b hb => nameByte_str b (List.all_eq_true.1 h.2.2.1 b hb)

/-- A datum's head in the reference's order of questions. -/
theorem head_iff (k n d : Int) (s : List UInt8) (len : Nat) : Dat.head k n d s len = true ↔
    (0 ≤ k ∧ k ≤ 7) ∧ (k = 0 → Num.right n d = true) ∧ (k ≠ 0 → d = 0) ∧ (k = 1 → n = 0 ∨ n = 1) ∧ (k ≠ 0 → k ≠ 1 → n = 0) ∧ (k = 2 → Dat.name s = true) ∧ (k ≠ 2 → k ≠ 3 → s = []) ∧ s.all Dat.strByte = true ∧ (k = 6 → len = 2) ∧ (k ≠ 6 → k ≠ 7 → len = 0) := by
  unfold Dat.head
  by_cases k0 : k = 0
  · subst k0
    simp only [if_true, Bool.and_eq_true, List.isEmpty_iff, decide_eq_true_eq]
    constructor
    · rintro ⟨h1, h2, h3⟩
      subst h2
      exact ⟨by omega, fun _ => h1, fun h => absurd rfl h, fun h => by omega, fun h => absurd rfl h, fun h => by omega, fun _ _ => rfl, rfl, fun h => by omega, fun _ _ => h3⟩
    · rintro ⟨_, h1, _, _, _, _, h2, _, _, h3⟩
      exact ⟨h1 trivial, h2 (by omega) (by omega), h3 (by omega) (by omega)⟩
  rw [if_neg k0]
  by_cases k1 : k = 1
  · subst k1
    simp only [if_true, Bool.and_eq_true, List.isEmpty_iff, decide_eq_true_eq]
    constructor
    · rintro ⟨h1, h2, h3, h4⟩
      subst h3
      exact ⟨by omega, fun h => by omega, fun _ => h1, fun _ => h2, fun _ h => absurd rfl h, fun h => by omega, fun _ _ => rfl, rfl, fun h => by omega, fun _ _ => h4⟩
    · rintro ⟨_, _, h1, h2, _, _, h3, _, _, h4⟩
      exact ⟨h1 k0, h2 trivial, h3 (by omega) (by omega), h4 (by omega) (by omega)⟩
  rw [if_neg k1]
  by_cases k2 : k = 2
  · subst k2
    simp only [if_true, Bool.and_eq_true, decide_eq_true_eq]
    constructor
    · rintro ⟨h1, h2, h3, h4⟩
      exact ⟨by omega, fun h => by omega, fun _ => h1, fun h => by omega, fun _ _ => h2, fun _ => h3, fun h => absurd rfl h, name_str h3, fun h => by omega, fun _ _ => h4⟩
    · rintro ⟨_, _, h1, _, h2, h3, _, _, _, h4⟩
      exact ⟨h1 k0, h2 k0 k1, h3 trivial, h4 (by omega) (by omega)⟩
  rw [if_neg k2]
  by_cases k3 : k = 3
  · subst k3
    simp only [if_true, Bool.and_eq_true, decide_eq_true_eq]
    constructor
    · rintro ⟨h1, h2, h3, h4⟩
      exact ⟨by omega, fun h => by omega, fun _ => h1, fun h => by omega, fun _ _ => h2, fun h => by omega, fun _ h => absurd rfl h, h3, fun h => by omega, fun _ _ => h4⟩
    · rintro ⟨_, _, h1, _, h2, _, _, h3, _, h4⟩
      exact ⟨h1 k0, h2 k0 k1, h3, h4 (by omega) (by omega)⟩
  rw [if_neg k3]
  by_cases k45 : k = 4 ∨ k = 5
  · rw [if_pos k45]
    simp only [Bool.and_eq_true, List.isEmpty_iff, decide_eq_true_eq]
    constructor
    · rintro ⟨h1, h2, h3, h4⟩
      subst h3
      exact ⟨by omega, fun h => absurd h k0, fun _ => h1, fun h => absurd h k1, fun _ _ => h2, fun h => absurd h k2, fun _ _ => rfl, rfl, fun h => by omega, fun _ _ => h4⟩
    · rintro ⟨_, _, h1, _, h2, _, h3, _, _, h4⟩
      exact ⟨h1 k0, h2 k0 k1, h3 k2 k3, h4 (by omega) (by omega)⟩
  rw [if_neg k45]
  by_cases k6 : k = 6
  · subst k6
    simp only [if_true, Bool.and_eq_true, List.isEmpty_iff, decide_eq_true_eq]
    constructor
    · rintro ⟨h1, h2, h3, h4⟩
      subst h3
      exact ⟨by omega, fun h => absurd h k0, fun _ => h1, fun h => absurd h k1, fun _ _ => h2, fun h => absurd h k2, fun _ _ => rfl, rfl, fun _ => h4, fun h => absurd rfl h⟩
    · rintro ⟨_, _, h1, _, h2, _, h3, _, h4, _⟩
      exact ⟨h1 k0, h2 k0 k1, h3 k2 k3, h4 trivial⟩
  rw [if_neg k6]
  by_cases k7 : k = 7
  · subst k7
    simp only [if_true, Bool.and_eq_true, List.isEmpty_iff, decide_eq_true_eq]
    constructor
    · rintro ⟨h1, h2, h3⟩
      subst h3
      exact ⟨by omega, fun h => absurd h k0, fun _ => h1, fun h => absurd h k1, fun _ _ => h2, fun h => absurd h k2, fun _ _ => rfl, rfl, fun h => by omega, fun _ h => absurd rfl h⟩
    · rintro ⟨_, _, h1, _, h2, _, h3, _, _, _⟩
      exact ⟨h1 k0, h2 k0 k1, h3 k2 k3⟩
  rw [if_neg k7]
  constructor
  · intro h; cases h
  · rintro ⟨h, _⟩; omega

end Go.Proofs.YtdlhocghiaghfaaGreatDoor

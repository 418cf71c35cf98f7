/-
  The contract of num.natural: one to ten digits, and what they come to.
-/
import Derived.Test.YtlpkpkcfgchngaaDoorText
namespace Go.Proofs.YtlpkpkcfgchngaaDoor
open Go.RowKit

namespace Num
def digs : List UInt8 := [48, 49, 50, 51, 52, 53, 54, 55, 56, 57]

theorem digs_iff (b : UInt8) : digs.contains b = isDigit b := by
  have : ∀ k : Fin 256, digs.contains (UInt8.ofNat k.val) = isDigit (UInt8.ofNat k.val) := by decide +kernel
  have e : b = UInt8.ofNat b.toNat := by simp
  rw [e]
  exact this ⟨b.toNat, b.toNat_lt⟩

theorem dropWhile_nil {α : Type} (p : α → Bool) (l : List α) : l.dropWhile p = [] ↔ ∀ b ∈ l, p b = true := by
  induction l with
  | nil => simp
  | cons c l ih =>
    simp only [List.dropWhile_cons, List.mem_cons, forall_eq_or_imp]
    split
    · rename_i h; simp [h, ih]
    · rename_i h; simp [h]

theorem mem_dropWhile {α : Type} {p : α → Bool} {l : List α} {b : α} (h : b ∈ l) (hb : p b = false) : b ∈ l.dropWhile p := by
  induction l with
  | nil => cases h
  | cons c l ih =>
    rw [List.dropWhile_cons]
    split
    · rename_i hc
      rcases List.mem_cons.1 h with rfl | h
      · rw [hb] at hc; cases hc
      · exact ih h
    · exact h

/-- What is trimmed to nothing is all of the set. -/
theorem trimS_nil (l cs : List UInt8) : Lib.trimS l cs = [] ↔ ∀ b ∈ l, cs.contains b = true := by
  unfold Lib.trimS Lib.trimLeftS Lib.trimRightS
  rw [dropWhile_nil]
  constructor
  · intro h b hb
    cases hc : cs.contains b with
    | true => rfl
    | false =>
      have h1 : b ∈ l.reverse.dropWhile (cs.contains ·) := mem_dropWhile (by simpa using hb) hc
      have := h b (by simpa using h1)
      rw [hc] at this; exact this
  · intro h b hb
    have h1 : b ∈ l.reverse.dropWhile (cs.contains ·) := by simpa using hb
    have : b ∈ l.reverse := (List.dropWhile_sublist _).mem h1
    exact h b (by simpa using this)

theorem digitVal_some {b : UInt8} (h : isDigit b = true) : Lib.digitVal b = some (b.toNat - 48) := by
  simp only [isDigit, Bool.and_eq_true, decide_eq_true_eq] at h
  unfold Lib.digitVal; rw [if_pos h]

theorem digitVal_none {b : UInt8} (h : isDigit b = false) : Lib.digitVal b = none := by
  unfold Lib.digitVal
  rw [if_neg]
  intro hc
  simp [isDigit, hc] at h

theorem decFrom_digits : ∀ (l : List UInt8) (acc : Nat), (∀ b ∈ l, isDigit b = true) → ∃ m, Lib.decFrom acc l = some m
  | [], acc, _ => ⟨acc, rfl⟩
  | c :: l, acc, h => by
    simp only [Lib.decFrom, digitVal_some (h c (by simp))]
    exact decFrom_digits l _ (fun b hb => h b (by simp [hb]))

theorem decFrom_none : ∀ (l : List UInt8) (acc : Nat), (∃ b ∈ l, isDigit b = false) → Lib.decFrom acc l = none
  | [], acc, h => by obtain ⟨b, hb, _⟩ := h; cases hb
  | c :: l, acc, h => by
    obtain ⟨b, hb, hd⟩ := h
    simp only [Lib.decFrom]
    cases hc : isDigit c with
    | false => rw [digitVal_none hc]
    | true =>
      rw [digitVal_some hc]
      refine decFrom_none l _ ⟨b, ?_, hd⟩
      rcases List.mem_cons.1 hb with rfl | hb
      · rw [hc] at hd; cases hd
      · exact hb

/-- One to ten digits: their number. -/
theorem nat?_cases (l : List UInt8) : (nat? l = none ∧ (l.length = 0 ∨ 10 < l.length ∨ (l.length ≤ 10 ∧ Lib.trimS l digs ≠ []))) ∨
    (∃ m : Nat, nat? l = some m ∧ l.length ≠ 0 ∧ l.length ≤ 10 ∧ Lib.trimS l digs = [] ∧ Lib.atoi l = some (m : Int) ∧ m < 10000000000) := by
  by_cases h0 : l.length = 0
  · left
    refine ⟨?_, .inl h0⟩
    have : l = [] := List.length_eq_zero_iff.1 h0
    subst this; rfl
  by_cases h1 : 10 < l.length
  · left
    exact ⟨by unfold nat?; rw [if_neg (by omega)], .inr (.inl h1)⟩
  by_cases h2 : Lib.trimS l digs = []
  · right
    have hd : ∀ b ∈ l, isDigit b = true := fun b hb => by rw [← digs_iff]; exact (trimS_nil _ _).1 h2 b hb
    obtain ⟨m, hm⟩ := decFrom_digits l 0 hd
    have hn : Lib.decNat l = some m := by
      unfold Lib.decNat
      rw [if_neg (by simpa using fun e : l = [] => h0 (by rw [e]; rfl)), hm]
    refine ⟨m, by unfold nat?; rw [if_pos (by omega), hn], h0, by omega, h2, ?_, ?_⟩
    · match l, h0 with
      | c :: r, _ =>
        have hc := hd c (by simp)
        simp only [isDigit, Bool.and_eq_true, decide_eq_true_eq] at hc
        simp only [Lib.atoi]
        rw [if_neg (by simp only [beq_iff_eq]; rintro rfl; simp at hc), if_neg (by simp only [beq_iff_eq]; rintro rfl; simp at hc), hn]
        rfl
    · have := Lib.decFrom_lt l 0 m hm
      have hp : 10 ^ l.length ≤ 10 ^ 10 := Nat.pow_le_pow_right (by omega) (by omega)
      omega
  · left
    refine ⟨?_, .inr (.inr ⟨by omega, h2⟩)⟩
    have : ∃ b ∈ l, isDigit b = false := by
      apply Decidable.byContradiction
      intro hc
      apply h2
      rw [trimS_nil]
      intro b hb
      rw [digs_iff]
      cases hd : isDigit b with
      | true => rfl
      | false => exact absurd ⟨b, hb, hd⟩ hc
    unfold nat?
    split
    · unfold Lib.decNat
      split
      · rfl
      · exact decFrom_none l 0 this
    · rfl
end Num

theorem trim_to (s : ByteArray) (T : List UInt8) (hs : s.size ≤ 9223372036854775807) (hT : Lib.trimS s.data.toList Num.digs = T) (w : World) :
    Calls Tryd.prog 36 #[.string s, .string ⟨#[48, 49, 50, 51, 52, 53, 54, 55, 56, 57]⟩] w fun e w' => e = .returned (.string ⟨T.toArray⟩) ∧ Below w.heap.size w w' := by
  have := trim_any s ⟨#[48, 49, 50, 51, 52, 53, 54, 55, 56, 57]⟩ hs (by decide) (by decide) w
  rw [show (⟨#[48, 49, 50, 51, 52, 53, 54, 55, 56, 57]⟩ : ByteArray).data.toList = Num.digs from rfl, hT] at this
  exact this

theorem natural_any (s : ByteArray) (hs : s.size ≤ 9223372036854775807) (w : World) :
    Calls Tryd.prog 51 #[.string s] w fun e w' => e = .returned (.tuple #[.int .i64 (((Num.nat? s.data.toList).getD 0 : Nat) : Int), .bool (Num.nat? s.data.toList).isSome]) ∧ Below w.heap.size w w' := by
  have hl : s.data.toList.length = s.size := rfl
  rcases Num.nat?_cases s.data.toList with ⟨hn, h⟩ | ⟨m, hn, h0, h1, h2, h3, h4⟩
  · have HN := Lib.hid hn
    rw [hl] at h
    clear hl hn
    rcases h with h | h | ⟨h, ht⟩
    · go_enter Tryd.func51, Tryd.ntmps51
      go_wp2
      go_ret2
      exact ⟨by rw [HN.out]; rfl, Below.self _⟩
    · have hz : ((s.size : Int) == 0) = false := by simp; rintro rfl; simp at h
      have hne : ¬ s = ByteArray.empty := by rintro rfl; simp at h
      go_enter Tryd.func51, Tryd.ntmps51
      go_wp2
      go_ret2
      exact ⟨by rw [HN.out]; rfl, Below.self _⟩
    · by_cases h0 : s.size = 0
      · go_enter Tryd.func51, Tryd.ntmps51
        go_wp2
        go_ret2
        exact ⟨by rw [HN.out]; rfl, Below.self _⟩
      have hne : ¬ s = ByteArray.empty := by rintro rfl; simp at h0
      have hz : ((s.size : Int) == 0) = false := by simpa using hne
      obtain ⟨T, hT⟩ : ∃ T, Lib.trimS s.data.toList Num.digs = T := ⟨_, rfl⟩
      rw [hT] at ht
      have HT := Lib.hid hT
      clear hT
      have he : T.isEmpty = false := by simpa using ht
      go_enter Tryd.func51, Tryd.ntmps51
      go_wp2_with (first | (go_at_call 36; refine (trim_to s T hs HT.out _).mono ?_; rintro e' w1 ⟨rfl, hb⟩))
      go_ret2
      exact ⟨by rw [HN.out]; rfl, hb⟩
  · have HN := Lib.hid hn
    have H2 := Lib.hid h2
    have H3 := Lib.hid h3
    rw [hl] at h0 h1
    have hne : ¬ s = ByteArray.empty := by rintro rfl; simp at h0
    have hz : ((s.size : Int) == 0) = false := by simpa using hne
    clear hl hn h2 h3
    go_enter Tryd.func51, Tryd.ntmps51
    go_wp2_with (first | (go_at_call 36; refine (trim_to s [] hs H2.out _).mono ?_; rintro e' w1 ⟨rfl, hb⟩) | (go_at_call 62; refine (atoi_any s m (by omega) H3.out _).mono ?_; rintro e' w2 ⟨rfl, hb2⟩))
    go_quiet (fail)
    go_wp2
    go_ret2
    exact ⟨by rw [HN.out]; rfl, Below.drewN (Below.next hb hb2) _⟩

end Go.Proofs.YtlpkpkcfgchngaaDoor

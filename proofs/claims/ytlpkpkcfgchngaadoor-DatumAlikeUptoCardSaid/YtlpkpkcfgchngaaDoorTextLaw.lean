/-
  The plain laws of numbers' texts: what Text and Parse compute, on lists of bytes; parsed again a text is the number.
-/
import Derived.Test.YtlpkpkcfgchngaaDoorNumRat
import Derived.Lib.ItoaNum
import Derived.Lib.Atoi
import Derived.Lib.AtoiAll
import Derived.Lib.SlTrimSet
namespace Go.Proofs.YtlpkpkcfgchngaaDoor
namespace Num
open Go

/-- num.Text. -/
def text (n d : Int) : List UInt8 :=
  if right n d then Lib.itoa n ++ (if d = 1 then [] else 47 :: Lib.itoa d) else []

/-- One to ten digits. -/
def nat? (l : List UInt8) : Option Nat := if l.length ≤ 10 then Lib.decNat l else none

def noSlash (b : UInt8) : Bool := b != 47

/-- What stands behind a slash; "1" where there is none. -/
def lower (l : List UInt8) : List UInt8 := match l.dropWhile noSlash with | [] => [49] | _ :: t => t

/-- The number of a text without a sign. -/
def parseU (neg : Bool) (l : List UInt8) : Int × Int × Bool :=
  match nat? (l.takeWhile noSlash), nat? (lower l) with
  | some n, some d => ((mk (if neg then -(n : Int) else n) d).1, (mk (if neg then -(n : Int) else n) d).2.1, decide ((mk (if neg then -(n : Int) else n) d).2.2 = 0))
  | _, _ => (0, 0, false)

/-- num.Parse. -/
def parse (l : List UInt8) : Int × Int × Bool :=
  match l with
  | 45 :: r => parseU true r
  | r => parseU false r

/-! ### digits -/

theorem digitVal_digit (k : Nat) (h : k < 10) : Lib.digitVal (UInt8.ofNat (48 + k)) = some k := by
  unfold Lib.digitVal
  have : (UInt8.ofNat (48 + k)).toNat = 48 + k := by simp; omega
  rw [this, if_pos (by omega)]
  congr 1
  omega

theorem decFrom_append : ∀ (l : List UInt8) (acc m : Nat) (b : UInt8) (d : Nat), Lib.decFrom acc l = some m → Lib.digitVal b = some d → Lib.decFrom acc (l ++ [b]) = some (m * 10 + d)
  | [], acc, m, b, d, h, hd => by
    simp only [Lib.decFrom, Option.some.injEq] at h
    subst h
    simp [Lib.decFrom, hd]
  | c :: l, acc, m, b, d, h, hd => by
    simp only [Lib.decFrom, List.cons_append] at h ⊢
    cases hc : Lib.digitVal c with
    | none => rw [hc] at h; cases h
    | some e =>
      rw [hc] at h
      exact decFrom_append l _ m b d h hd

theorem decFrom_decDigits (u : Nat) : Lib.decFrom 0 (Lib.decDigits u) = some u := by
  induction u using Nat.strongRecOn with
  | ind u ih =>
    rw [Lib.decDigits]
    split
    · rename_i h
      show (match Lib.digitVal (UInt8.ofNat (48 + u)) with | some d => Lib.decFrom (0 * 10 + d) [] | none => none) = some u
      rw [digitVal_digit u h]
      simp [Lib.decFrom]
    · rename_i h
      rw [decFrom_append _ _ _ _ _ (ih (u / 10) (by omega)) (digitVal_digit (u % 10) (by omega))]
      congr 1
      omega

theorem decDigits_ne (u : Nat) : Lib.decDigits u ≠ [] := by
  rw [Lib.decDigits]; split <;> simp

theorem decNat_decDigits (u : Nat) : Lib.decNat (Lib.decDigits u) = some u := by
  unfold Lib.decNat
  rw [if_neg (by simpa using decDigits_ne u), decFrom_decDigits]

theorem decDigits_len (u : Nat) (h : u < 10000000000) : (Lib.decDigits u).length ≤ 10 := by
  rw [Lib.decDigits_length]
  have : ∀ (k u : Nat), u < 10 ^ (k + 1) → Lib.nDigits u ≤ k + 1 := by
    intro k
    induction k with
    | zero => intro u h; rw [Lib.nDigits_small (by simpa using h)]; omega
    | succ k ih =>
      intro u h
      by_cases hs : u < 10
      · rw [Lib.nDigits_small hs]; omega
      · rw [Lib.nDigits_big hs]
        have := ih (u / 10) (by rw [Nat.pow_succ] at h; omega)
        omega
  exact this 9 u (by simpa using h)

theorem nat?_decDigits (u : Nat) (h : u < 10000000000) : nat? (Lib.decDigits u) = some u := by
  unfold nat?
  rw [if_pos (decDigits_len u h), decNat_decDigits]

/-- A digit. -/
def isDigit (b : UInt8) : Bool := decide (48 ≤ b.toNat) && decide (b.toNat ≤ 57)

theorem decDigits_digit (u : Nat) : ∀ b ∈ Lib.decDigits u, isDigit b = true := by
  induction u using Nat.strongRecOn with
  | ind u ih =>
    intro b hb
    rw [Lib.decDigits] at hb
    split at hb
    · rename_i h
      simp only [List.mem_singleton] at hb
      subst hb
      have : (UInt8.ofNat (48 + u)).toNat = 48 + u := by simp; omega
      simp only [isDigit, this, Bool.and_eq_true, decide_eq_true_eq]; omega
    · rename_i h
      rw [List.mem_append] at hb
      rcases hb with hb | hb
      · exact ih (u / 10) (by omega) b hb
      · simp only [List.mem_singleton] at hb
        subst hb
        have : (UInt8.ofNat (48 + u % 10)).toNat = 48 + u % 10 := by simp; omega
        simp only [isDigit, this, Bool.and_eq_true, decide_eq_true_eq]; omega

theorem noSlash_of_digit {b : UInt8} (h : isDigit b = true) : noSlash b = true := by
  simp only [isDigit, Bool.and_eq_true, decide_eq_true_eq] at h
  simp only [noSlash, bne_iff_ne, ne_eq]
  rintro rfl
  simp at h

theorem takeWhile_all {l r : List UInt8} (h : ∀ b ∈ l, noSlash b = true) : (l ++ 47 :: r).takeWhile noSlash = l ∧ (l ++ 47 :: r).dropWhile noSlash = 47 :: r := by
  induction l with
  | nil => simp [noSlash]
  | cons c l ih =>
    have hc := h c (by simp)
    have := ih (fun b hb => h b (by simp [hb]))
    simp [List.takeWhile_cons, List.dropWhile_cons, hc, this]

theorem takeWhile_only {l : List UInt8} (h : ∀ b ∈ l, noSlash b = true) : l.takeWhile noSlash = l ∧ l.dropWhile noSlash = [] := by
  induction l with
  | nil => simp
  | cons c l ih =>
    have hc := h c (by simp)
    have := ih (fun b hb => h b (by simp [hb]))
    simp [List.takeWhile_cons, List.dropWhile_cons, hc, this]

theorem itoa_nat {d : Int} (h : 0 ≤ d) : Lib.itoa d = Lib.decDigits d.toNat := by
  unfold Lib.itoa; rw [if_neg (by omega)]

theorem parseU_text (neg : Bool) (u : Nat) (d : Int) (hu : u < 10000000000) (hd : 1 ≤ d) (hd2 : d < 10000000000) :
    parseU neg (Lib.decDigits u ++ (if d = 1 then [] else 47 :: Lib.itoa d)) = ((mk (if neg then -(u : Int) else u) d).1, (mk (if neg then -(u : Int) else u) d).2.1, decide ((mk (if neg then -(u : Int) else u) d).2.2 = 0)) := by
  have hns : ∀ b ∈ Lib.decDigits u, noSlash b = true := fun b hb => noSlash_of_digit (decDigits_digit u b hb)
  by_cases h1 : d = 1
  · subst h1
    simp only [if_true, List.append_nil, parseU, lower, takeWhile_only hns, nat?_decDigits u hu]
    have : nat? [49] = some 1 := by rfl
    rw [this]
    rfl
  · simp only [h1, if_false, parseU, lower, takeWhile_all hns, nat?_decDigits u hu]
    rw [itoa_nat (by omega), nat?_decDigits d.toNat (by omega)]
    simp only []
    rw [Int.toNat_of_nonneg (by omega)]

/-- Parsed again a number's text is it. -/
theorem parse_text {n d : Int} (h : right n d = true) : parse (text n d) = (n, d, true) := by
  have hb := h
  rw [right_iff] at hb
  have hmk : mk n d = (n, d, 0) := by rw [mk_eq (right_ne h), ofQ_right h]
  unfold text
  rw [if_pos h]
  by_cases hn : n < 0
  · have e : Lib.itoa n = 45 :: Lib.decDigits n.natAbs := by unfold Lib.itoa; rw [if_pos hn]
    rw [e]
    show parseU true (Lib.decDigits n.natAbs ++ _) = _
    rw [parseU_text true _ _ (by omega) (by omega) (by omega)]
    have e2 : (if true = true then -(n.natAbs : Int) else (n.natAbs : Int)) = n := by simp; omega
    rw [e2, hmk]
    rfl
  · rw [itoa_nat (by omega)]
    have hp : parse (Lib.decDigits n.toNat ++ if d = 1 then [] else 47 :: Lib.itoa d) = parseU false (Lib.decDigits n.toNat ++ if d = 1 then [] else 47 :: Lib.itoa d) := by
      have hd := decDigits_digit n.toNat
      generalize Lib.decDigits n.toNat = l at *
      unfold parse
      split
      · rename_i r heq
        exfalso
        cases l with
        | nil =>
          split at heq
          · cases heq
          · simp at heq
        | cons c l =>
          simp only [List.cons_append, List.cons.injEq] at heq
          have := hd c (by simp)
          rw [heq.1] at this
          exact absurd this (by decide)
      · rfl
    rw [hp, parseU_text false _ _ (by omega) (by omega) (by omega)]
    have e2 : (if false = true then -(n.toNat : Int) else (n.toNat : Int)) = n := by simp; omega
    rw [e2, hmk]
    rfl

end Num
end Go.Proofs.YtlpkpkcfgchngaaDoor

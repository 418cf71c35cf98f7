/-
  The plain laws of numbers (chapter 1): what Make, Right, Add .. compute, in integers; no program in sight.
-/
namespace Go.Proofs.YtlpkpkcfgchngaaDoor
namespace Num

/-- num.Make: n by d. -/
def mk (n d : Int) : Int × Int × Int :=
  if d = 0 then (0, 0, 4) else
  if 2147483647 < n.natAbs / Int.gcd n d ∨ 2147483647 < d.natAbs / Int.gcd n d then (0, 0, 3) else
  if n < 0 ↔ d < 0 then (((n.natAbs / Int.gcd n d : Nat) : Int), ((d.natAbs / Int.gcd n d : Nat) : Int), 0)
  else (-((n.natAbs / Int.gcd n d : Nat) : Int), ((d.natAbs / Int.gcd n d : Nat) : Int), 0)

/-- num.Right. -/
def right (n d : Int) : Bool :=
  decide (1 ≤ d) && (decide (d ≤ 2147483647) && (decide (-2147483647 ≤ n) && (decide (n ≤ 2147483647) && (Int.gcd n d == 1))))

theorem right_iff (n d : Int) : right n d = true ↔ 1 ≤ d ∧ d ≤ 2147483647 ∧ -2147483647 ≤ n ∧ n ≤ 2147483647 ∧ Int.gcd n d = 1 := by
  simp [right]

def add (n d m e : Int) : Int × Int × Int := if right n d && right m e then mk (n * e + m * d) (d * e) else (0, 0, 3)
def sub (n d m e : Int) : Int × Int × Int := if right n d && right m e then mk (n * e - m * d) (d * e) else (0, 0, 3)
def mul (n d m e : Int) : Int × Int × Int := if right n d && right m e then mk (n * m) (d * e) else (0, 0, 3)
def div (n d m e : Int) : Int × Int × Int := if right n d && right m e then mk (n * e) (d * m) else (0, 0, 3)
def less (n d m e : Int) : Bool := right n d && right m e && decide (n * e < m * d)

/-- corbelref01.Sub, Mul, Div, as they are typed there. -/
def rsub (n d m e : Int) : Int × Int × Int := if right n d && right m e then add n d (-m) e else (0, 0, 3)
def rmul (n d m e : Int) : Int × Int × Int :=
  if right n d && right m e then mk (n.tdiv (Int.gcd n e) * m.tdiv (Int.gcd m d)) (d.tdiv (Int.gcd m d) * e.tdiv (Int.gcd n e)) else (0, 0, 3)
def rdiv (n d m e : Int) : Int × Int × Int :=
  if right n d && right m e then if m = 0 then (0, 0, 4) else if m < 0 then rmul n d (-e) (-m) else rmul n d e m else (0, 0, 3)

/-- A product of two that are small is small. -/
theorem mul_bd {a b : Int} (a0 : -2147483647 ≤ a) (a1 : a ≤ 2147483647) (b0 : -2147483647 ≤ b) (b1 : b ≤ 2147483647) :
    -4611686014132420609 ≤ a * b ∧ a * b ≤ 4611686014132420609 := by
  have h : (a * b).natAbs ≤ 2147483647 * 2147483647 := by
    rw [Int.natAbs_mul]
    exact Nat.mul_le_mul (by omega) (by omega)
  omega

theorem gcd_ne {n d : Int} (hd : d ≠ 0) : Int.gcd n d ≠ 0 := by
  intro h
  rw [Int.gcd_eq_zero_iff] at h
  exact hd h.2

theorem gcd_le {n d : Int} (hd : d ≠ 0) : Int.gcd n d ≤ d.natAbs := Nat.le_of_dvd (by omega) (by
  have := Int.gcd_dvd_right n d
  exact Int.ofNat_dvd_left.1 this)

theorem gcd_ne_left {n d : Int} (hd : n ≠ 0) : Int.gcd n d ≠ 0 := by
  intro h
  rw [Int.gcd_eq_zero_iff] at h
  exact hd h.1

theorem tdiv_bd {n : Int} {g : Nat} (a0 : -2147483647 ≤ n) (a1 : n ≤ 2147483647) : -2147483647 ≤ n.tdiv g ∧ n.tdiv g ≤ 2147483647 := by
  have h : (n.tdiv g).natAbs ≤ n.natAbs := by
    rw [Int.natAbs_tdiv]; exact Nat.div_le_self _ _
  omega

end Num
end Go.Proofs.YtlpkpkcfgchngaaDoor

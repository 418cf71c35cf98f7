/-
  Instructions, procedures, units, in plain Lean; what it is to be right (chapter 14), as the program asks it and as the document does.
-/
import Derived.Test.YtdlhocghiaghfaaGreatDoorPlain
namespace Go.Proofs.YtdlhocghiaghfaaGreatDoor
/-- An instruction. -/
structure Ins where
  op : Int
  d : Int
  a : Int
  b : Int
  l : List Int
/-- A procedure. -/
structure Proc where
  args : Int
  rest : Bool
  regs : Int
  code : List Ins
  alive : List (List Int)

namespace Unt
def isOp (op : Int) : Bool := decide (0 ≤ op) && decide (op ≤ 22)
def pD (op : Int) : Bool := [0, 1, 2, 3, 4, 5, 6, 7, 9, 10, 11, 14, 17, 18].contains op
def pA (op : Int) : Bool := [1, 8, 10, 11, 12, 13, 14, 16, 17, 19, 22].contains op
def pB (op : Int) : Bool := [12, 13, 18, 20].contains op
def pL (op : Int) : Bool := [7, 8, 9, 17, 18, 19, 20, 21].contains op
def pN (op : Int) : Bool := [0, 2, 5, 6, 7, 9, 15, 18, 20, 21].contains op
def pM (op : Int) : Bool := op == 16
def below (n most : Int) : Bool := decide (0 ≤ n) && decide (n < most)
def regB (has : Bool) (n regs : Int) : Bool := (!has && n == 0) || (has && below n regs)
/-- What an instruction's own numbers must be. -/
def tailOk (x : Ins) (nc np nk : Int) : Bool :=
  if x.op = 0 then below x.a nk
  else if x.op = 2 ∨ x.op = 9 then below x.a 31
  else if x.op = 5 ∨ x.op = 7 ∨ x.op = 18 ∨ x.op = 20 then below x.a np
  else if x.op = 6 then decide (0 ≤ x.a)
  else if x.op = 15 then below x.a nc
  else if x.op = 16 then below x.b nc
  else if x.op = 21 then decide (x.a = 29) || decide (x.a = 30)
  else true
/-- Is an instruction right (as the program asks it)? -/
def fits (x : Ins) (regs nc np nk : Int) : Bool :=
  isOp x.op && (regB (pD x.op) x.d regs && ((pN x.op || regB (pA x.op) x.a regs) && ((pM x.op || regB (pB x.op) x.b regs) && ((pL x.op || decide (x.l.length ≤ 0)) && (x.l.all (below · regs) && tailOk x nc np nk)))))

/-- Which registers an instruction names. -/
def named (x : Ins) : List Int :=
  if x.op = 1 ∨ x.op = 10 ∨ x.op = 11 ∨ x.op = 14 then [x.a]
  else if x.op = 12 ∨ x.op = 13 then [x.a, x.b]
  else if x.op = 7 ∨ x.op = 9 ∨ x.op = 21 then x.l
  else if x.op = 8 ∨ x.op = 17 ∨ x.op = 19 then x.a :: x.l
  else if x.op = 18 ∨ x.op = 20 then x.b :: x.l
  else if x.op = 16 ∨ x.op = 22 then [x.a]
  else []
/-- Which register it gives a value. -/
def gives (x : Ins) : Int := if x.op ≤ 7 ∨ (9 ≤ x.op ∧ x.op ≤ 11) ∨ x.op = 14 ∨ x.op = 17 ∨ x.op = 18 then x.d else -1
def bare (x : Ins) : Bool :=
  !(decide (gives x < 0) && decide (x.d ≠ 0)) && (!(decide (x.a ≠ 0) && (decide (x.op = 3) || decide (x.op = 4))) && (!(decide (x.b ≠ 0) && (decide (x.op ≠ 12) && (decide (x.op ≠ 13) && (decide (x.op ≠ 16) && (decide (x.op ≠ 18) && decide (x.op ≠ 20)))))) &&
    (decide (x.l.length = 0) || ((decide (7 ≤ x.op) && decide (x.op ≤ 9)) || (decide (17 ≤ x.op) && decide (x.op ≤ 21))))))
/-- Is an instruction right (as the document asks it)? -/
def ins (x : Ins) (regs nc np nk : Int) : Bool :=
  isOp x.op && (bare x && ((named x).all (below · regs) && (!(decide (regs ≤ gives x) || (decide (gives x < -1) || decide (x.d < 0))) && tailOk x nc np nk)))

theorem ins_fits (x : Ins) (regs nc np nk : Int) (hr : 0 ≤ regs) : ins x regs nc np nk = fits x regs nc np nk := by
  obtain ⟨op, d, a, b, l⟩ := x
  cases h : isOp op with
  | false => simp [ins, fits, h]
  | true =>
    simp only [isOp, Bool.and_eq_true, decide_eq_true_eq] at h
    obtain ⟨h0, h1⟩ := h
    obtain ⟨n, rfl⟩ := Int.eq_ofNat_of_zero_le h0
    have hn : n ≤ 22 := by omega
    clear h0 h1
    generalize hA : l.all (below · regs) = A
    obtain ⟨m, hm⟩ : ∃ m, l.length = m := ⟨_, rfl⟩
    have hAl : (l.length = 0 → A = true) := fun h => by
      rw [List.length_eq_zero_iff] at h; subst h; rw [← hA]; rfl
    simp only [below] at hA
    match n, hn with
    | 0, _ | 1, _ | 2, _ | 3, _ | 4, _ | 5, _ | 6, _ | 7, _ | 8, _ | 9, _ | 10, _ | 11, _ | 12, _ | 13, _ | 14, _ | 15, _ | 16, _ | 17, _ | 18, _ | 19, _ | 20, _ | 21, _ | 22, _ =>
      rw [Bool.eq_iff_iff]
      simp only [ins, fits, bare, hm] at hAl ⊢
      cases A <;> simp [-List.all_eq_true, -List.all_eq_false, named, gives, isOp, pD, pA, pB, pL, pN, pM, regB, below, tailOk, hA] at hAl ⊢ <;> omega
    | n + 23, h => omega
end Unt

namespace Unt
/-- The op of the last instruction. -/
def lastOp (l : List Ins) : Int := match l.getLast? with | some x => x.op | none => 0
/-- A procedure's numbers. -/
def headB (p : Proc) : Bool := !(decide (p.args < 0) || (decide (p.regs < p.args) || (decide (20000 < p.regs) || ((p.rest && decide (p.args = 0)) || (decide ((p.code.length : Int) = 0) || decide (50000 < (p.code.length : Int)))))))
def lastB (op : Int) : Bool := decide (op = 15) || (decide (19 ≤ op) && decide (op ≤ 22))
/-- Are procedures right? all: how many instructions stand ahead of them. -/
def procsB (nk np : Int) : List Proc → Int → Bool
  | [], _ => true
  | p :: l, all => headB p && (decide (all + p.code.length ≤ 50000) && (lastB (lastOp p.code) && (p.code.all (fun x => fits x p.regs p.code.length np nk) && procsB nk np l (all + p.code.length))))
end Unt
/-- A unit. -/
structure Unt where
  consts : List Dat
  procs : List Proc
/-- Is a unit right? -/
def Unt.okB (u : Unt) : Bool := decide (1 ≤ (u.procs.length : Int)) && (decide ((u.procs.length : Int) ≤ 1000) && (u.consts.all (fun x => Dat.right x 0) && Unt.procsB u.consts.length u.procs.length u.procs 0))
/-- The error of a unit. -/
def Unt.err (u : Unt) : Int := if u.okB then 0 else 5
end Go.Proofs.YtdlhocghiaghfaaGreatDoor

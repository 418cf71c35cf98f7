/-
  What the proofs lean on: Mk, Fits, PClean, FewT.
-/
import Derived.WalkSpells
import Derived.Deep.LoopGhost
import Derived.Deep.DeepCutAuto
import Derived.Test.YtigkhmppnnljiaaGreatDoorShiftA07
import Derived.Test.YtigkhmppnnljiaaGreatDoorShiftA08
import Derived.Test.YtigkhmppnnljiaaGreatDoorShiftA09
import Derived.Test.YtigkhmppnnljiaaGreatDoorShiftA10
import Derived.Test.YtigkhmppnnljiaaGreatDoorShiftA11
import Derived.Test.YtigkhmppnnljiaaGreatDoorShiftA12
import Derived.Test.YtigkhmppnnljiaaGreatDoorShiftA13
namespace Go.Proofs.YtigkhmppnnljiaaGreatDoor

namespace Trm
/-- Sorts of terms of a module. -/
def sortB (op : Int) : Bool := [0, 1, 3, 5, 6, 8, 9, 10, 11, 12, 13, 15, 16, 17, 18, 19, 20, 21, 22].contains op
/-- As many parts and variables as there must be. -/
def countsB (op : Int) (nv nt : Nat) : Bool :=
  if op = 8 ∨ op = 9 then decide (nt = nv + 1)
  else decide (nv = 0) && (if op = 0 ∨ op = 1 ∨ op = 11 ∨ op = 13 ∨ op = 20 ∨ op = 21 then decide (nt = 0)
    else if op = 12 ∨ op = 15 ∨ op = 16 then decide (nt = 1)
    else if op = 17 ∨ op = 18 then decide (nt = 2)
    else if op = 3 then decide (nt = 3)
    else if op = 5 ∨ op = 6 ∨ op = 22 then decide (1 ≤ nt)
    else true)
/-- A term's number, in a module of so many constants and codes; fr: may it name what a closure is over? -/
def numberB (nc nk : Int) (fr : Bool) (sc : Int → Bool) (op n : Int) : Bool :=
  if op = 0 then decide (0 ≤ n) && decide (n < nc)
  else if op = 1 then sc n
  else if op = 10 ∨ op = 11 then decide (0 ≤ n) && decide (n < 31)
  else if op = 19 ∨ op = 21 ∨ op = 22 then decide (0 ≤ n) && decide (n < nk)
  else if op = 20 then decide (0 ≤ n) && fr
  else decide (n = 0)
/-- A set of variables, and those of a list. -/
def addV (sc : Int → Bool) (v : List Int) : Int → Bool := fun x => sc x || v.contains x
mutual
/-- Is a term right, but for what is bound twice? -/
def wf (nc nk : Int) (fr : Bool) : Trm → (Int → Bool) → Bool
  | mk op n v t, sc => sortB op && (countsB op v.length t.length && (numberB nc nk fr sc op n && wfL nc nk fr op v t sc))
def wfL (nc nk : Int) (fr : Bool) : Int → List Int → List Trm → (Int → Bool) → Bool
  | _, _, [], _ => true
  | _, v, [x], sc => wf nc nk fr x (addV sc v)
  | op, v, x :: y :: l, sc => (if op = 9 then decide (x.op = 19) && wf nc nk fr x (addV sc v) else wf nc nk fr x sc) && wfL nc nk fr op v (y :: l) sc
end
mutual
/-- All variables that a term binds. -/
def bnd : Trm → List Int
  | mk _ _ v t => v ++ bndL t
def bndL : List Trm → List Int
  | [] => []
  | x :: l => bnd x ++ bndL l
end
/-- Variables in range, none twice, none of a set. -/
def newB (S : Int → Bool) : List Int → Bool
  | [] => true
  | x :: l => (decide (0 ≤ x) && (decide (x ≤ 1000000) && !S x)) && newB (addV S [x]) l
end Trm

/-- What the maker holds: instructions, how many registers, which one a variable has. -/
structure MSt where
  code : List Ins
  regs : Int
  vars : List (Int × Int)
namespace MSt
def put (s : MSt) (x : Ins) : MSt := { s with code := s.code ++ [x] }
def fresh (s : MSt) : MSt := { s with regs := s.regs + 1 }
def setA (s : MSt) (k : Nat) (a : Int) : MSt := { s with code := s.code.modify k fun x => { x with a := a } }
def setB (s : MSt) (k : Nat) (b : Int) : MSt := { s with code := s.code.modify k fun x => { x with b := b } }
def len (s : MSt) : Int := s.code.length
def bind (s : MSt) (v r : List Int) : MSt := { s with vars := s.vars ++ v.zip r }
end MSt

namespace Mk
/-- The last one. -/
def lkL : List (Int × Int) → Int → Int
  | [], _ => 0
  | p :: l, v => if l.any (fun q => q.1 == v) then lkL l v else if p.1 = v then p.2 else 0

/-- A value of parts that are had comes into a register. -/
def strict (op n d : Int) (l : List Int) (s : MSt) : MSt :=
  if op = 0 then s.put ⟨0, d, n, 0, []⟩
  else if op = 11 then s.put ⟨2, d, n, 0, []⟩
  else if op = 13 then s.put ⟨3, d, 0, 0, []⟩
  else if op = 21 then s.put ⟨5, d, n, 0, []⟩
  else if op = 20 then s.put ⟨6, d, n, 0, []⟩
  else if op = 5 then s.put ⟨17, d, l.headD 0, 0, l.tail⟩
  else if op = 22 then s.put ⟨18, d, n, l.headD 0, l.tail⟩
  else if op = 10 then s.put ⟨9, d, n, 0, l⟩
  else if op = 19 then s.put ⟨7, d, n, 0, l⟩
  else if op = 12 then s.put ⟨14, d, l.headD 0, 0, []⟩
  else if op = 15 then s.put ⟨10, d, l.headD 0, 0, []⟩
  else if op = 16 then s.put ⟨11, d, l.headD 0, 0, []⟩
  else if op = 17 then (s.put ⟨12, 0, l.headD 0, l.tail.headD 0, []⟩).put ⟨4, d, 0, 0, []⟩
  else if op = 18 then (s.put ⟨13, 0, l.headD 0, l.tail.headD 0, []⟩).put ⟨4, d, 0, 0, []⟩
  else s
/-- A call at the end, of parts that are had. -/
def ended (op n : Int) (l : List Int) (s : MSt) : MSt :=
  if op = 5 then s.put ⟨19, 0, l.headD 0, 0, l.tail⟩
  else if op = 22 then s.put ⟨20, 0, n, l.headD 0, l.tail⟩
  else s.put ⟨21, 0, n, 0, l⟩
def endsB (op n : Int) : Bool := decide (op = 5) || (decide (op = 22) || (decide (op = 10) && decide (29 ≤ n)))
/-- A term's register, from what lays it into one. -/
def hadW (lk : List (Int × Int) → Int → Int) (op n : Int) (f : Int → Bool → MSt → MSt) (s : MSt) : Int × MSt :=
  if op = 1 then (lk s.vars n, s) else (s.regs, f s.regs false s.fresh)
/-- A Fix's closures, with nothing in them. -/
def fix1 : List Int → List Trm → MSt → MSt
  | v :: vs, x :: l, s => fix1 vs l ((s.fresh.bind [v] [s.regs]).put ⟨7, s.regs, x.n, 0, []⟩)
  | _, _, s => s
def thens (f g : Int → Bool → MSt → MSt) (c d : Int) (e : Bool) (s : MSt) : MSt :=
  let s1 := s.put ⟨16, 0, c, 0, []⟩
  let s2 := f d e s1
  let s3 := if e then s2 else s2.put ⟨15, 0, 0, 0, []⟩
  let s4 := s3.setB s.code.length s3.len
  let s5 := g d e s4
  if e then s5 else s5.setA s2.code.length s5.len
mutual
/-- A term's value comes into a register; at the end it is what the procedure makes. -/
def into (lk : List (Int × Int) → Int → Int) : Trm → Int → Bool → MSt → MSt
  | .mk op n v t, d, e, s =>
    if op = 3 then choice lk t d e s
    else if op = 6 then seqs lk t d e s
    else if op = 8 then lets lk t v [] d e s
    else if op = 9 then fixs lk t v d e (fix1 v t s)
    else if e then
      if endsB op n then let p := allT lk t s; ended op n p.1 p.2
      else if op = 1 then s.put ⟨22, 0, lk s.vars n, 0, []⟩
      else let p := allT lk t s.fresh; (strict op n s.regs p.1 p.2).put ⟨22, 0, s.regs, 0, []⟩
    else if op = 1 then s.put ⟨1, d, lk s.vars n, 0, []⟩
    else let p := allT lk t s; strict op n d p.1 p.2
def choice (lk : List (Int × Int) → Int → Int) : List Trm → Int → Bool → MSt → MSt
  | [a, b, c], d, e, s => let p := hadW lk a.op a.n (into lk a) s; thens (into lk b) (into lk c) p.1 d e p.2
  | _, _, _, s => s
def allT (lk : List (Int × Int) → Int → Int) : List Trm → MSt → List Int × MSt
  | [], s => ([], s)
  | x :: l, s => let p := hadW lk x.op x.n (into lk x) s; let q := allT lk l p.2; (p.1 :: q.1, q.2)
def seqs (lk : List (Int × Int) → Int → Int) : List Trm → Int → Bool → MSt → MSt
  | [], _, _, s => s
  | [x], d, e, s => into lk x d e s
  | x :: y :: l, d, e, s => let p := hadW lk x.op x.n (into lk x) s; seqs lk (y :: l) d e p.2
def lets (lk : List (Int × Int) → Int → Int) : List Trm → List Int → List Int → Int → Bool → MSt → MSt
  | [], _, _, _, _, s => s
  | [x], v, rs, d, e, s => into lk x d e (s.bind v rs)
  | x :: y :: l, v, rs, d, e, s => let p := hadW lk x.op x.n (into lk x) s; lets lk (y :: l) v (rs ++ [p.1]) d e p.2
def fixs (lk : List (Int × Int) → Int → Int) : List Trm → List Int → Int → Bool → MSt → MSt
  | [], _, _, _, s => s
  | [x], _, d, e, s => into lk x d e s
  | .mk _ _ _ t :: y :: l, v, d, e, s => let p := allT lk t s; fixs lk (y :: l) v.tail d e (p.2.put ⟨8, 0, lk p.2.vars (v.headD 0), 0, p.1⟩)
end
def had (lk : List (Int × Int) → Int → Int) (x : Trm) (s : MSt) : Int × MSt := hadW lk x.op x.n (into lk x) s
/-- A code's procedure. -/
def proc (lk : List (Int × Int) → Int → Int) (c : Cod) : Proc :=
  let s := into lk c.body 0 true ⟨[], c.v.length, c.v.zip ((List.range c.v.length).map fun (i : Nat) => (i : Int))⟩
  ⟨c.v.length, c.rest, s.regs, s.code, []⟩
end Mk

namespace Mdl
/-- Are a module's codes right? B: what is bound so far. -/
def codesB (nc nk : Int) : List Cod → (Int → Bool) → Bool
  | [], _ => true
  | c :: l, B => (!c.rest || decide (0 < c.v.length)) && (Trm.newB B (c.v ++ c.body.bnd) && (c.body.wf nc nk true (Trm.addV (fun _ => false) c.v) && codesB nc nk l (Trm.addV B (c.v ++ c.body.bnd))))
/-- Is a module right? -/
def okB (m : Mdl) : Bool := (m.consts.all fun x => Dat.right x 0) && ((m.body.wf m.consts.length m.codes.length false (fun _ => false) && Trm.newB (fun _ => false) m.body.bnd) && codesB m.consts.length m.codes.length m.codes (Trm.addV (fun _ => false) m.body.bnd))
/-- A module's unit. -/
def unit (lk : List (Int × Int) → Int → Int) (m : Mdl) : Unt := ⟨m.consts, m.codes.map (Mk.proc lk) ++ [Mk.proc lk ⟨[], false, m.body⟩]⟩
def makeErr (lk : List (Int × Int) → Int → Int) (m : Mdl) : Int := if m.okB && (m.unit lk).okB then 0 else 5
def makeU (lk : List (Int × Int) → Int → Int) (m : Mdl) : Unt := if m.okB && (m.unit lk).okB then m.unit lk else ⟨[], []⟩
end Mdl
end Go.Proofs.YtigkhmppnnljiaaGreatDoor

namespace Go.Proofs.YtigkhmppnnljiaaGreatDoor
open Go.RowKit

theorem fits_any (k : Int) (d a b : Int) (l : List Int) (o : Option Addr) (len cap : Nat) (args regs : Int) (rest : Bool) (oc oa ok op : Option Addr) (lc cc la ca lk ck lp cp : Nat) (B : Nat) (w : World) (ha : -9223372036854775808 ≤ a ∧ a ≤ 9223372036854775807) (hv : SlC w B 1 IntR l (.slice o len cap)) (hB : B ≤ w.heap.size) (r : Bool) (hr : Unt.fits ⟨k, d, a, b, l⟩ regs lc lp lk = r) :
    Calls Tryz.prog 34 #[.agg #[.int .i64 k, .int .i64 d, .int .i64 a, .int .i64 b, .slice o len cap], .agg #[.int .i64 args, .bool rest, .int .i64 regs, .slice oc lc cc, .slice oa la ca], .agg #[.slice ok lk ck, .slice op lp cp]] w fun e w' => e = .returned (.bool r) ∧ Below w.heap.size w w' := by
  by_cases hk : k < 0 ∨ 22 < k
  · exact fits_no k hk d a b l o len cap args regs rest oc oa ok op lc cc la ca lk ck lp cp B w ha hv hB r hr
  obtain ⟨n, rfl⟩ : ∃ n : Nat, k = n := ⟨k.toNat, by omega⟩
  have hn : n ≤ 22 := by omega
  clear hk
  match n, hn with
  | 0, _ => exact fits_0 d a b l o len cap args regs rest oc oa ok op lc cc la ca lk ck lp cp B w ha hv hB r hr
  | 1, _ => exact fits_1 d a b l o len cap args regs rest oc oa ok op lc cc la ca lk ck lp cp B w ha hv hB r hr
  | 2, _ => exact fits_2 d a b l o len cap args regs rest oc oa ok op lc cc la ca lk ck lp cp B w ha hv hB r hr
  | 3, _ => exact fits_3 d a b l o len cap args regs rest oc oa ok op lc cc la ca lk ck lp cp B w ha hv hB r hr
  | 4, _ => exact fits_4 d a b l o len cap args regs rest oc oa ok op lc cc la ca lk ck lp cp B w ha hv hB r hr
  | 5, _ => exact fits_5 d a b l o len cap args regs rest oc oa ok op lc cc la ca lk ck lp cp B w ha hv hB r hr
  | 6, _ => exact fits_6 d a b l o len cap args regs rest oc oa ok op lc cc la ca lk ck lp cp B w ha hv hB r hr
  | 7, _ => exact fits_7 d a b l o len cap args regs rest oc oa ok op lc cc la ca lk ck lp cp B w ha hv hB r hr
  | 8, _ => exact fits_8 d a b l o len cap args regs rest oc oa ok op lc cc la ca lk ck lp cp B w ha hv hB r hr
  | 9, _ => exact fits_9 d a b l o len cap args regs rest oc oa ok op lc cc la ca lk ck lp cp B w ha hv hB r hr
  | 10, _ => exact fits_10 d a b l o len cap args regs rest oc oa ok op lc cc la ca lk ck lp cp B w ha hv hB r hr
  | 11, _ => exact fits_11 d a b l o len cap args regs rest oc oa ok op lc cc la ca lk ck lp cp B w ha hv hB r hr
  | 12, _ => exact fits_12 d a b l o len cap args regs rest oc oa ok op lc cc la ca lk ck lp cp B w ha hv hB r hr
  | 13, _ => exact fits_13 d a b l o len cap args regs rest oc oa ok op lc cc la ca lk ck lp cp B w ha hv hB r hr
  | 14, _ => exact fits_14 d a b l o len cap args regs rest oc oa ok op lc cc la ca lk ck lp cp B w ha hv hB r hr
  | 15, _ => exact fits_15 d a b l o len cap args regs rest oc oa ok op lc cc la ca lk ck lp cp B w ha hv hB r hr
  | 16, _ => exact fits_16 d a b l o len cap args regs rest oc oa ok op lc cc la ca lk ck lp cp B w ha hv hB r hr
  | 17, _ => exact fits_17 d a b l o len cap args regs rest oc oa ok op lc cc la ca lk ck lp cp B w ha hv hB r hr
  | 18, _ => exact fits_18 d a b l o len cap args regs rest oc oa ok op lc cc la ca lk ck lp cp B w ha hv hB r hr
  | 19, _ => exact fits_19 d a b l o len cap args regs rest oc oa ok op lc cc la ca lk ck lp cp B w ha hv hB r hr
  | 20, _ => exact fits_20 d a b l o len cap args regs rest oc oa ok op lc cc la ca lk ck lp cp B w ha hv hB r hr
  | 21, _ => exact fits_21 d a b l o len cap args regs rest oc oa ok op lc cc la ca lk ck lp cp B w ha hv hB r hr
  | 22, _ => exact fits_22 d a b l o len cap args regs rest oc oa ok op lc cc la ca lk ck lp cp B w ha hv hB r hr
  | n + 23, h => omega
end Go.Proofs.YtigkhmppnnljiaaGreatDoor

namespace Go.Proofs.YtigkhmppnnljiaaGreatDoor
open Go.RowKit

theorem ownsRow_set {W : World} {base n size : Nat} {e : TypeId} {v : Value} {xs : List Value} (h : W.ownsRow base e size v n xs) (a : Addr) (u : Value) (hne : ∀ g, v.ownBlock = some g → g ≠ a.block) : (W.setCell a u).ownsRow base e size v n xs :=
  h.kept (row := some a.block) ⟨rfl, rfl, rfl, by simp, fun k _ hk => setCell_heap_other W a u (fun e => hk (by rw [e]))⟩ (by
    cases hv : v.ownBlock with
    | none => exact .inl rfl
    | some g => exact .inr (fun e => hne g hv (by simpa using e)))
theorem ownsRow_base {W : World} {base base' n size : Nat} {e : TypeId} {v : Value} {xs : List Value} (h : W.ownsRow base e size v n xs) (hb : base' ≤ base) : W.ownsRow base' e size v n xs := by
  refine ⟨h.1, ?_⟩
  rcases h.2 with h' | ⟨g, cap, cur, h1, h2, h3⟩
  · exact .inl h'
  · exact .inr ⟨g, cap, cur, h1, Nat.le_trans hb h2, h3⟩
end Go.Proofs.YtigkhmppnnljiaaGreatDoor

namespace Go.Proofs.YtigkhmppnnljiaaGreatDoor
open Go Go.RowKit

namespace Trm
mutual
/-- How many terms are left. -/
def few : Trm → Int → Int
  | mk _ _ _ t, left => fewL t (left - 1)
def fewL : List Trm → Int → Int
  | [], c => c
  | x :: l, c => if 0 ≤ c then fewL l (few x c) else c
end
theorem fewL_neg (l : List Trm) {c : Int} (hc : ¬ 0 ≤ c) : fewL l c = c := by
  cases l with
  | nil => rfl
  | cons x l => rw [fewL, if_neg hc]
theorem all_ge : ∀ x : Trm, 1 ≤ x.all
  | mk _ _ _ t => by rw [all]; omega
theorem few_eq (x : Trm) : ∀ c : Int, 0 ≤ c → few x c = if (x.all : Int) ≤ c then c - x.all else -1 := by
  have hL : ∀ l : List Trm, (∀ x ∈ l, ∀ c : Int, 0 ≤ c → few x c = if (x.all : Int) ≤ c then c - x.all else -1) → ∀ c : Int, -1 ≤ c → fewL l c = if (allL l : Int) ≤ c then c - allL l else -1 := by
    intro l
    induction l with
    | nil =>
      intro _ c hc
      rw [fewL, allL]
      split
      · simp
      · omega
    | cons x l ih =>
      intro hx c hc
      have hp := x.all_ge
      by_cases h0 : 0 ≤ c
      · rw [fewL, if_pos h0, hx x (by simp) c h0, ih (fun y hy => hx y (by simp [hy])) _ (by split <;> omega), allL]
        split <;> split <;> (try split) <;> omega
      · rw [fewL, if_neg h0, allL, if_neg (by omega)]
        omega
  induction x using Trm.ind with
  | _ o n v t ih =>
    intro c hc
    rw [few, hL t ih _ (by omega), all]
    split <;> split <;> omega
theorem few_range (x : Trm) {c : Int} (hc : 0 ≤ c) : -1 ≤ few x c ∧ few x c ≤ c := by
  rw [few_eq x c hc]
  have := x.all_ge
  split <;> omega
theorem fewL_step {l : List Trm} {i : Nat} {x : Trm} {c : Int} (h : l[i]? = some x) (hc : 0 ≤ c) : fewL (l.drop i) c = fewL (l.drop (i + 1)) (few x c) := by
  have e : l.drop i = x :: l.drop (i + 1) := by
    obtain ⟨hi, he⟩ := List.getElem?_eq_some_iff.1 h
    rw [← he]; exact List.drop_eq_getElem_cons hi
  rw [e, fewL, if_pos hc]
/-- Few says whether there are few. -/
theorem few_ge0 (x : Trm) {c : Int} (hc : 0 ≤ c) : decide (0 ≤ few x c) = decide ((x.all : Int) ≤ c) := by
  rw [few_eq x c hc, decide_eq_decide]
  split <;> omega
theorem allL_take : ∀ (l : List Trm) (j : Nat) (x : Trm), l[j]? = some x → allL (l.take (j + 1)) = allL (l.take j) + x.all
  | [], j, x, h => by simp at h
  | y :: l, 0, x, h => by
    simp only [List.getElem?_cons_zero, Option.some.injEq] at h
    subst h
    simp [allL]
  | y :: l, j + 1, x, h => by
    have := allL_take l j x (by simpa using h)
    simp only [List.take_succ_cons, allL]
    omega
theorem allL_take_le : ∀ (l : List Trm) (j : Nat), allL (l.take j) ≤ allL l
  | [], j => by simp
  | y :: l, 0 => by simp [allL]
  | y :: l, j + 1 => by
    have := allL_take_le l j
    simp only [List.take_succ_cons, allL]
    omega
end Trm

/-- The box of a term that came in. -/
theorem trm_boxed {w : World} {B : Nat} {o n : Int} {v : List Int} {t : List Trm} {c0 c1 c2 c3 : Value} (h : TrmR w B (.mk o n v t) [c0, c1, c2, c3]) : ∃ vs q len cap, c0 = .int .i64 o ∧ c1 = .int .i64 n ∧ c2 = vs ∧ c3 = .slice q len cap ∧ SlC w B 4 (TrmR w B) t (.slice q len cap) ∧ SlC w B 1 IntR v vs ∧ len = t.length ∧ len ≤ 9223372036854775807 := by
  obtain ⟨vs, ts, he, _, _, h3, h4⟩ := trmR_iff.1 h
  simp only [List.cons.injEq, and_true] at he
  obtain ⟨rfl, rfl, rfl, rfl⟩ := he
  obtain ⟨q, len, cap, rfl⟩ := h4.form
  have := h4.lens
  exact ⟨_, _, _, _, rfl, rfl, rfl, rfl, h4, h3, this.1, by omega⟩

theorem trm_form {W : World} {B : Nat} {x : Trm} {c0 c1 c2 c3 : Value} (h : TrmR W B x [c0, c1, c2, c3]) : ∃ q r u q' r' u', c0 = .int .i64 x.op ∧ c1 = .int .i64 x.n ∧ c2 = .slice q r u ∧ c3 = .slice q' r' u' := by
  obtain ⟨o, n, v, t⟩ := x
  obtain ⟨vs, ts, he, _, _, h3, h4⟩ := trmR_iff.1 h
  simp only [List.cons.injEq, and_true] at he
  obtain ⟨rfl, rfl, rfl, rfl⟩ := he
  obtain ⟨q, r, u, rfl⟩ := h3.form
  obtain ⟨q', r', u', rfl⟩ := h4.form
  exact ⟨_, _, _, _, _, _, rfl, rfl, rfl, rfl⟩

set_option maxHeartbeats 2000000 in
set_option maxRecDepth 100000 in
theorem tfew_any (x : Trm) : ∀ (c0 c1 c2 c3 : Value) (left : Int) (B : Nat) (w : World), TrmR w B x [c0, c1, c2, c3] → B ≤ w.heap.size → 0 ≤ left → left ≤ 100000 →
    Calls Tryz.prog 49 #[.agg #[c0, c1, c2, c3], .int .i64 left] w fun e w' => e = .returned (.int .i64 (Trm.few x left)) ∧ Below w.heap.size w w' := by
  induction x using Trm.ind with
  | _ o n v t ih =>
    intro c0 c1 c2 c3 left B w hv hB h0 h1
    obtain ⟨vs, q, len, cap, rfl, rfl, rfl, rfl, hs, _, hlen, hmx⟩ := trm_boxed hv
    obtain ⟨W1, hW1⟩ : ∃ W1, w.alloc (.cells #[.int .i64 o, .int .i64 n, c2, .slice q len cap] 41) = W1 := ⟨_, rfl⟩
    have HB1 := Lib.hid (show Below w.heap.size w W1 from by rw [← hW1]; exact Below.one w _)
    have HX1 := Lib.hid (show BoxL W1 w.heap.size 41 [.int .i64 o, .int .i64 n, c2, .slice q len cap] from by rw [← hW1]; exact BoxL.new rfl _ _)
    have IH := Lib.hid ih
    have HS := Lib.hid hs
    have HL := Lib.hid hlen
    have HW := Lib.hid hW1
    clear ih hv hs hlen hW1
    go_enter Tryz.func49, Tryz.ntmps49
    go_upto_region 1 with fail
    rw [HW.out]
    go_wp2
    go_loopg [1, 5] len (fun g a i wr => ∃ (cur : Int) (j : Nat), g = len - j ∧ a = .int .i64 cur ∧ i = .int .i64 j ∧ j ≤ len ∧ -1 ≤ cur ∧ cur ≤ 100000 ∧ Hid (Trm.fewL (t.drop j) cur = Trm.fewL t (left - 1)) ∧ Hid (Below W1.heap.size W1 wr))
    case atStart => exact ⟨left - 1, 0, rfl, rfl, rfl, by omega, by omega, by omega, Lib.hid rfl, Lib.hid (Below.refl _ _)⟩
    case round =>
      obtain ⟨cur, j, rfl, rfl, rfl, hj, hc1, hc2, HF, HBR⟩ := hrel
      have HXR := Lib.hid (HX1.out.keep HBR.out)
      have HBW := Lib.hid (HB1.out.trans (HBR.out.mono HB1.out.size))
      have b3 := HXR.out.cell 3 rfl
      have bl := HXR.out.lt
      by_cases hjl : j < len
      · by_cases hcur : 0 ≤ cur
        · obtain ⟨x, hx⟩ : ∃ x, t[j]? = some x := ⟨_, List.getElem?_eq_getElem (by rw [← HL.out]; exact hjl)⟩
          obtain ⟨b, off, cs, ho, _, hcl, hcell, hir⟩ := SlC.at HS.out (HBW.out.mono hB) hx
          subst ho
          match cs, hcl with
          | [d0, d1, d2, d3], _ =>
            have e0 := hcell 0 _ rfl
            have e1 := hcell 1 _ rfl
            have e2 := hcell 2 _ rfl
            have e3 := hcell 3 _ rfl
            simp only [Nat.add_zero] at e0
            have HX := Lib.hid hx
            have hg := Trm.few_range x hcur
            have HF2 := Lib.hid ((Trm.fewL_step hx hcur).symm.trans HF.out)
            have HCC := Lib.hid (IH.out x (List.mem_of_getElem? hx) d0 d1 d2 d3 cur B wr (TrmR.kept (HBW.out.mono hB) _ _ hir) (by have := HBW.out.size; omega) hcur hc2)
            obtain ⟨y, hy⟩ : ∃ y, Trm.few x cur = y := ⟨_, rfl⟩
            rw [hy] at hg HF2 HCC
            clear hx hir hcell hy
            go_wp2_with fail
            with_reducible refine HCC.out.mono ?_
            rintro e w1 ⟨rfl, hb1⟩
            have HBN := Lib.hid (HBR.out.trans (hb1.mono HBR.out.size))
            clear hb1 HCC
            go_wp2_with fail
            go_roundg (len - (j + 1))
            case measure => omega
            case rel => exact ⟨y, j + 1, rfl, rfl, by go_num, by omega, by omega, by omega, HF2, HBN⟩
        · have HR := Lib.hid (show Trm.fewL t (left - 1) = cur by rw [← HF.out, Trm.fewL_neg _ hcur])
          go_wp2
          go_ret
          exact ⟨ret_int (by rw [Trm.few]; exact HR.out.symm), HBW.out⟩
      · have HR := Lib.hid (show Trm.fewL t (left - 1) = cur by
          rw [← HF.out, List.drop_eq_nil_of_le (by rw [← HL.out]; omega)]; rfl)
        go_wp2
        go_ret
        exact ⟨ret_int (by rw [Trm.few]; exact HR.out.symm), HBW.out⟩

set_option maxRecDepth 100000 in
theorem tFew_any (x : Trm) (c0 c1 c2 c3 : Value) (left : Int) (B : Nat) (w : World) (hv : TrmR w B x [c0, c1, c2, c3]) (hB : B ≤ w.heap.size) (h0 : 0 ≤ left) (h1 : left ≤ 100000) :
    Calls Tryz.prog 22 #[.agg #[c0, c1, c2, c3], .int .i64 left] w fun e w' => e = .returned (.bool (decide ((x.all : Int) ≤ left))) ∧ Below w.heap.size w w' := by
  have HD := Lib.hid (Trm.few_ge0 x h0)
  have HCC := Lib.hid (tfew_any x c0 c1 c2 c3 left B (w.alloc (.cells #[c0, c1, c2, c3] 41)) (TrmR.kept ((Below.one w _).mono hB) _ _ hv) (by simp; omega) h0 h1)
  obtain ⟨o, n, v, t⟩ := x
  obtain ⟨vs, q, len, cap, rfl, rfl, rfl, rfl, hs, _, hlen, hmx⟩ := trm_boxed hv
  obtain ⟨oo, ll, cc, rfl⟩ : ∃ oo ll cc, c2 = .slice oo ll cc := by
    obtain ⟨vs', ts, he, _, _, h3, _⟩ := trmR_iff.1 hv
    simp only [List.cons.injEq, and_true] at he
    obtain ⟨_, _, rfl, _⟩ := he
    exact h3.form
  obtain ⟨y, hy⟩ : ∃ y, Trm.few (.mk o n v t) left = y := ⟨_, rfl⟩
  rw [hy] at HD HCC
  clear hv hs hlen hmx hy
  go_enter Tryz.func22, Tryz.ntmps22
  go_wp2_with fail
  with_reducible refine HCC.out.mono ?_
  rintro e' w1 ⟨rfl, hb1⟩
  go_wp2_with fail
  go_ret
  exact ⟨by rw [← HD.out]; rfl, (Below.one w _).trans (hb1.mono (by simp))⟩

set_option maxHeartbeats 2000000 in
set_option maxRecDepth 100000 in
theorem tsize_any (x : Trm) : ∀ (c0 c1 c2 c3 : Value) (deep : Int) (B : Nat) (w : World), TrmR w B x [c0, c1, c2, c3] → B ≤ w.heap.size → 0 ≤ deep → deep + x.all ≤ 1000 →
    Calls Tryz.prog 67 #[.agg #[c0, c1, c2, c3], .int .i64 deep] w fun e w' => e = .returned (.int .i64 x.all) ∧ Below w.heap.size w w' := by
  induction x using Trm.ind with
  | _ o n v t ih =>
    intro c0 c1 c2 c3 deep B w hv hB h0 h1
    obtain ⟨vs, q, len, cap, rfl, rfl, rfl, rfl, hs, _, hlen, hmx⟩ := trm_boxed hv
    obtain ⟨W1, hW1⟩ : ∃ W1, w.alloc (.cells #[.int .i64 o, .int .i64 n, c2, .slice q len cap] 41) = W1 := ⟨_, rfl⟩
    have HB1 := Lib.hid (show Below w.heap.size w W1 from by rw [← hW1]; exact Below.one w _)
    have HX1 := Lib.hid (show BoxL W1 w.heap.size 41 [.int .i64 o, .int .i64 n, c2, .slice q len cap] from by rw [← hW1]; exact BoxL.new rfl _ _)
    rw [Trm.all] at h1 ⊢
    have IH := Lib.hid ih
    have HS := Lib.hid hs
    have HL := Lib.hid hlen
    have HW := Lib.hid hW1
    clear ih hv hs hlen hW1
    go_enter Tryz.func67, Tryz.ntmps67
    go_upto_region 1 with fail
    rw [HW.out]
    go_wp2
    go_loopg [5, 6] len (fun g a i wr => ∃ j : Nat, g = len - j ∧ a = .int .i64 ((1 + Trm.allL (t.take j) : Nat) : Int) ∧ i = .int .i64 j ∧ j ≤ len ∧ Hid (Below W1.heap.size W1 wr))
    case atStart => exact ⟨0, rfl, by rw [List.take_zero, Trm.allL]; rfl, rfl, by omega, Lib.hid (Below.refl _ _)⟩
    case round =>
      obtain ⟨j, rfl, rfl, rfl, hj, HBR⟩ := hrel
      have HXR := Lib.hid (HX1.out.keep HBR.out)
      have HBW := Lib.hid (HB1.out.trans (HBR.out.mono HB1.out.size))
      have b3 := HXR.out.cell 3 rfl
      have bl := HXR.out.lt
      have hle := Trm.allL_take_le t j
      by_cases hjl : j < len
      · obtain ⟨x, hx⟩ : ∃ x, t[j]? = some x := ⟨_, List.getElem?_eq_getElem (by rw [← HL.out]; exact hjl)⟩
        obtain ⟨b, off, cs, ho, _, hcl, hcell, hir⟩ := SlC.at HS.out (HBW.out.mono hB) hx
        subst ho
        match cs, hcl with
        | [d0, d1, d2, d3], _ =>
          have e0 := hcell 0 _ rfl
          have e1 := hcell 1 _ rfl
          have e2 := hcell 2 _ rfl
          have e3 := hcell 3 _ rfl
          simp only [Nat.add_zero] at e0
          have hle2 := Trm.allL_take_le t (j + 1)
          have hst := Trm.allL_take t j x hx
          have hm := Trm.allL_mem (List.mem_of_getElem? hx)
          have hap := x.all_ge
          have hd : deep < 1000 := by omega
          have HCC := Lib.hid (IH.out x (List.mem_of_getElem? hx) d0 d1 d2 d3 (deep + 1) B wr (TrmR.kept (HBW.out.mono hB) _ _ hir) (by have := HBW.out.size; omega) (by omega) (by omega))
          have HST := Lib.hid hst
          clear hx hir hcell hst
          obtain ⟨N, hN⟩ : ∃ N, Trm.allL (t.take j) = N := ⟨_, rfl⟩
          obtain ⟨M, hM⟩ : ∃ M, x.all = M := ⟨_, rfl⟩
          rw [hN, hM] at HST
          rw [hM] at HCC hm hap
          rw [HST.out] at hle2
          rw [hN] at hle ⊢
          clear hN hM
          go_wp2_with fail
          with_reducible refine HCC.out.mono ?_
          rintro e w1 ⟨rfl, hb1⟩
          have HBN := Lib.hid (HBR.out.trans (hb1.mono HBR.out.size))
          clear hb1 HCC
          go_wp2_with fail
          go_roundg (len - (j + 1))
          case measure => omega
          case rel => exact ⟨j + 1, rfl, by rw [HST.out]; go_num, by go_num, by omega, HBN⟩
      · obtain rfl : j = len := by omega
        have HT := Lib.hid (show t.take j = t from List.take_of_length_le (by rw [← HL.out]; exact Nat.le_refl _))
        rw [HT.out]
        go_wp2
        go_ret
        exact ⟨rfl, HBW.out⟩

set_option maxRecDepth 100000 in
theorem tSize_any (x : Trm) (c0 c1 c2 c3 : Value) (B : Nat) (w : World) (hv : TrmR w B x [c0, c1, c2, c3]) (hB : B ≤ w.heap.size) (h1 : x.all ≤ 1000) :
    Calls Tryz.prog 37 #[.agg #[c0, c1, c2, c3]] w fun e w' => e = .returned (.int .i64 x.all) ∧ Below w.heap.size w w' := by
  have HCC := Lib.hid (tsize_any x c0 c1 c2 c3 0 B (w.alloc (.cells #[c0, c1, c2, c3] 41)) (TrmR.kept ((Below.one w _).mono hB) _ _ hv) (by simp; omega) (by omega) (by omega))
  obtain ⟨o, n, v, t⟩ := x
  obtain ⟨vs', ts, he, _, _, h3, h4⟩ := trmR_iff.1 hv
  simp only [List.cons.injEq, and_true] at he
  obtain ⟨rfl, rfl, rfl, rfl⟩ := he
  obtain ⟨oo, ll, cc, rfl⟩ := h3.form
  obtain ⟨o2, l2, k2, rfl⟩ := h4.form
  obtain ⟨N, hN⟩ : ∃ N, (Trm.mk o n v t).all = N := ⟨_, rfl⟩
  rw [hN] at HCC ⊢
  clear hv h3 h4 hN h1
  go_enter Tryz.func37, Tryz.ntmps37
  go_wp2_with fail
  with_reducible refine HCC.out.mono ?_
  rintro e' w1 ⟨rfl, hb1⟩
  go_wp2_with fail
  go_ret
  exact ⟨rfl, (Below.one w _).trans (hb1.mono (by simp))⟩
end Go.Proofs.YtigkhmppnnljiaaGreatDoor

/-
  What the proofs lean on: ModOpen, Fits, PClean, Mk.
-/
import Derived.WalkSpells
import Derived.Test.YtigkhmppnnljiaaGreatDoorFlatA08
import Derived.Test.YtigkhmppnnljiaaGreatDoorFlatA10
import Derived.Test.YtigkhmppnnljiaaGreatDoorFlatA11
import Derived.Test.YtigkhmppnnljiaaGreatDoorFlatA12
import Derived.Test.YtigkhmppnnljiaaGreatDoorFlatA13
namespace Go.Proofs.YtigkhmppnnljiaaGreatDoor
open Go Go.RowKit Go.Deep Go.ChangeShapes Go.WideShapes Go.ChangeAt

/-- A procedure of a module. -/
structure Cod where
  v : List Int
  rest : Bool
  body : Trm
/-- A module. -/
structure Mdl where
  consts : List Dat
  codes : List Cod
  body : Trm
/-- The cells of a module's procedure. -/
def CodR (w : World) (B : Nat) (c : Cod) (cs : List Value) : Prop := ∃ vs b0 b1 b2 b3, cs = [vs, .bool c.rest, b0, b1, b2, b3] ∧ SlC w B 1 IntR c.v vs ∧ TrmR w B c.body [b0, b1, b2, b3]
/-- The value of a module. -/
def MdlR (w : World) (B : Nat) (m : Mdl) (v : Value) : Prop := ∃ c p b0 b1 b2 b3, v = .agg #[c, p, b0, b1, b2, b3] ∧ RepS w B m.consts c ∧ SlC w B 6 (CodR w B) m.codes p ∧ TrmR w B m.body [b0, b1, b2, b3]
theorem CodR.kept {w w' : World} {B : Nat} {c : Cod} {cs : List Value} (h : CodR w B c cs) (hb : Below B w w') : CodR w' B c cs := by
  obtain ⟨vs, b0, b1, b2, b3, rfl, h1, h2⟩ := h
  exact ⟨vs, b0, b1, b2, b3, rfl, h1.kept hb fun _ _ _ h => h, TrmR.kept hb _ _ h2⟩
theorem MdlR.kept {w w' : World} {B : Nat} {m : Mdl} {v : Value} (h : MdlR w B m v) (hb : Below B w w') : MdlR w' B m v := by
  obtain ⟨c, p, b0, b1, b2, b3, rfl, h1, h2, h3⟩ := h
  exact ⟨c, p, b0, b1, b2, b3, rfl, h1.kept hb, h2.kept hb fun _ _ _ h => CodR.kept h hb, TrmR.kept hb _ _ h3⟩

section
variable {H : Type} {enc : TypeId × Value → H}
set_option maxRecDepth 100000 in
theorem codR_of_trod {w : World} (n' : Nat) (cs : List Value) (y : DataW H × List MemPlace) (h : DataW.trod enc Tryz.prog w 0 (fun _ => true) true n' 50 cs = some y) (hw : ∀ n ∈ y.1.weights Tryz.prog 50, n ≤ reachBytes) : ∃ x, CodR w w.heap.size x cs := by
  obtain ⟨xs, n, rfl, rfl, hlen, hxs, hget⟩ := DataW.trod_struct Tryz.underlying50 h
  rw [show Tryz.prog.cellsOf 50 = 6 by kernel_rfl] at hlen
  match cs, hlen with
  | [c0, c1, c2, c3, c4, c5], _ =>
    have g0 : DataW.trod enc Tryz.prog w 0 (fun _ => true) true n 32 (([c0, c1, c2, c3, c4, c5].drop 0).take (Tryz.prog.cellsOf 32)) = xs[0]? := hget 0 _ rfl
    have g1 : DataW.trod enc Tryz.prog w 0 (fun _ => true) true n 4 (([c0, c1, c2, c3, c4, c5].drop 1).take (Tryz.prog.cellsOf 4)) = xs[1]? := hget 1 _ rfl
    have g2 : DataW.trod enc Tryz.prog w 0 (fun _ => true) true n 41 (([c0, c1, c2, c3, c4, c5].drop 2).take (Tryz.prog.cellsOf 41)) = xs[2]? := hget 2 _ rfl
    rw [show Tryz.prog.cellsOf 32 = 1 by kernel_rfl] at g0
    rw [show Tryz.prog.cellsOf 4 = 1 by kernel_rfl] at g1
    rw [show Tryz.prog.cellsOf 41 = 4 by kernel_rfl] at g2
    have hx3 : xs.length = 3 := hxs
    match xs, hx3 with
    | [x0, x1, x2], _ =>
      obtain ⟨b, e1, _⟩ := DataW.trod_bool Tryz.underlying4 (show _ = some x1 from g1)
      have f1 : c1 = .bool b := by simpa using e1
      subst f1
      have we : ∀ (i : Nat) (t : TypeId) (z : DataW H), [32, 4, 41][i]? = some t → [x0.1, x1.1, x2.1][i]? = some z → ∀ n ∈ z.weights Tryz.prog t, n ≤ reachBytes := by
        intro i t z ht hz q hq
        refine hw q ?_
        show q ∈ DataW.weights Tryz.prog 50 (.agg _)
        simp only [DataW.weights, Tryz.underlying50]
        exact weightsEach_mem i ht hz q hq
      obtain ⟨l, hl⟩ := ints_of_trod n c0 x0 (show _ = some x0 from g0) (we 0 32 _ rfl rfl)
      obtain ⟨t, ht⟩ := trmR_of_trod n [c2, c3, c4, c5] x2 (show _ = some x2 from g2) (we 2 41 _ rfl rfl)
      exact ⟨⟨l, b, t⟩, c0, c2, c3, c4, c5, rfl, hl, ht⟩

set_option maxRecDepth 100000 in
/-- An argument that is a module. -/
theorem open_module {W : World} {r : Reach} {b0 : Nat} {v : Value} {d : DataW H} {ps : List MemPlace} (hval : Value.okWide Tryz.prog W r b0 43 v) (hd : DataW.Trod enc Tryz.prog W 0 (fun _ => true) true 43 v d ps) (hw : ∀ n ∈ d.weights Tryz.prog 43, n ≤ reachBytes) : ∃ m, MdlR W W.heap.size m v := by
  unfold Value.okWide at hval
  rw [Tryz.underlying43] at hval
  obtain ⟨⟨cs⟩, rfl, _⟩ := hval
  obtain ⟨fuel, hf⟩ := hd
  have hf' : DataW.trod enc Tryz.prog W 0 (fun _ => true) true fuel 43 cs = some (d, ps) := by simpa [Value.cells] using hf
  obtain ⟨xs, n, rfl, hd2, hlen, hxs, hget⟩ := DataW.trod_struct Tryz.underlying43 hf'
  obtain rfl : d = _ := congrArg Prod.fst hd2
  rw [show Tryz.prog.cellsOf 43 = 6 by kernel_rfl] at hlen
  match cs, hlen with
  | [c0, c1, c2, c3, c4, c5], _ =>
    have g0 : DataW.trod enc Tryz.prog W 0 (fun _ => true) true n 22 (([c0, c1, c2, c3, c4, c5].drop 0).take (Tryz.prog.cellsOf 22)) = xs[0]? := hget 0 _ rfl
    have g1 : DataW.trod enc Tryz.prog W 0 (fun _ => true) true n 38 (([c0, c1, c2, c3, c4, c5].drop 1).take (Tryz.prog.cellsOf 38)) = xs[1]? := hget 1 _ rfl
    have g2 : DataW.trod enc Tryz.prog W 0 (fun _ => true) true n 41 (([c0, c1, c2, c3, c4, c5].drop 2).take (Tryz.prog.cellsOf 41)) = xs[2]? := hget 2 _ rfl
    rw [cells_data] at g0
    rw [show Tryz.prog.cellsOf 38 = 1 by kernel_rfl] at g1
    rw [show Tryz.prog.cellsOf 41 = 4 by kernel_rfl] at g2
    have hx3 : xs.length = 3 := hxs
    match xs, hx3 with
    | [x0, x1, x2], _ =>
      have we : ∀ (i : Nat) (t : TypeId) (z : DataW H), [22, 38, 41][i]? = some t → [x0.1, x1.1, x2.1][i]? = some z → ∀ n ∈ z.weights Tryz.prog t, n ≤ reachBytes := by
        intro i t z ht hz q hq
        refine hw q ?_
        show q ∈ DataW.weights Tryz.prog 43 (.agg _)
        simp only [DataW.weights, Tryz.underlying43]
        exact weightsEach_mem i ht hz q hq
      obtain ⟨l, hl⟩ := repS_of_trod n c0 x0 (show _ = some x0 from g0) (we 0 22 _ rfl rfl)
      obtain ⟨l2, hl2⟩ := slC_of_trod (te := 50) (size := 6) (bs := 96) Tryz.underlying38 (by kernel_rfl) (by kernel_rfl) (by omega) (by omega) (R := CodR W W.heap.size) (fun n' cs' y hy hw => codR_of_trod n' cs' y hy hw) n c1 x1 (show _ = some x1 from g1) (we 1 38 _ rfl rfl)
      obtain ⟨t, ht⟩ := trmR_of_trod n [c2, c3, c4, c5] x2 (show _ = some x2 from g2) (we 2 41 _ rfl rfl)
      exact ⟨⟨l, l2, t⟩, c0, c1, c2, c3, c4, c5, rfl, hl, hl2, ht⟩
end
end Go.Proofs.YtigkhmppnnljiaaGreatDoor

namespace Go.Proofs.YtigkhmppnnljiaaGreatDoor
open Go.RowKit

theorem fits_any (k : Int) (d a b : Int) (l : List Int) (o : Option Addr) (len cap : Nat) (args regs : Int) (rest : Bool) (oc oa ok op : Option Addr) (lc cc la ca lk ck lp cp : Nat) (B : Nat) (w : World) (ha : -9223372036854775808 ≤ a ∧ a ≤ 9223372036854775807) (hv : SlC w B 1 IntR l (.slice o len cap)) (hB : B ≤ w.heap.size) (r : Bool) (hr : Unt.fits ⟨k, d, a, b, l⟩ regs lc lp lk = r) :
    Calls Tryz.prog 34 #[.agg #[.int .i64 k, .int .i64 d, .int .i64 a, .int .i64 b, .slice o len cap], .agg #[.int .i64 args, .bool rest, .int .i64 regs, .slice oc lc cc, .slice oa la ca], .agg #[.slice ok lk ck, .slice op lp cp]] w fun e w' => e = .returned (.bool r) ∧ Below w.heap.size w w' := by
  by_cases hk : k < 0 ∨ 22 < k
  · exact fits_no k hk d a b l o len cap args regs rest oc oa ok op lc cc la ca lk ck lp cp B w ha hv hB r hr
  obtain ⟨n, rfl⟩ : ∃ n : Nat, k = n := ⟨k.toNat, by omega⟩
  have hn : n ≤ 22 := by omega
  clear hk
  match n, hn with
  | 0, _ => exact fits_0 d a b l o len cap args regs rest oc oa ok op lc cc la ca lk ck lp cp B w ha hv hB r hr
  | 1, _ => exact fits_1 d a b l o len cap args regs rest oc oa ok op lc cc la ca lk ck lp cp B w ha hv hB r hr
  | 2, _ => exact fits_2 d a b l o len cap args regs rest oc oa ok op lc cc la ca lk ck lp cp B w ha hv hB r hr
  | 3, _ => exact fits_3 d a b l o len cap args regs rest oc oa ok op lc cc la ca lk ck lp cp B w ha hv hB r hr
  | 4, _ => exact fits_4 d a b l o len cap args regs rest oc oa ok op lc cc la ca lk ck lp cp B w ha hv hB r hr
  | 5, _ => exact fits_5 d a b l o len cap args regs rest oc oa ok op lc cc la ca lk ck lp cp B w ha hv hB r hr
  | 6, _ => exact fits_6 d a b l o len cap args regs rest oc oa ok op lc cc la ca lk ck lp cp B w ha hv hB r hr
  | 7, _ => exact fits_7 d a b l o len cap args regs rest oc oa ok op lc cc la ca lk ck lp cp B w ha hv hB r hr
  | 8, _ => exact fits_8 d a b l o len cap args regs rest oc oa ok op lc cc la ca lk ck lp cp B w ha hv hB r hr
  | 9, _ => exact fits_9 d a b l o len cap args regs rest oc oa ok op lc cc la ca lk ck lp cp B w ha hv hB r hr
  | 10, _ => exact fits_10 d a b l o len cap args regs rest oc oa ok op lc cc la ca lk ck lp cp B w ha hv hB r hr
  | 11, _ => exact fits_11 d a b l o len cap args regs rest oc oa ok op lc cc la ca lk ck lp cp B w ha hv hB r hr
  | 12, _ => exact fits_12 d a b l o len cap args regs rest oc oa ok op lc cc la ca lk ck lp cp B w ha hv hB r hr
  | 13, _ => exact fits_13 d a b l o len cap args regs rest oc oa ok op lc cc la ca lk ck lp cp B w ha hv hB r hr
  | 14, _ => exact fits_14 d a b l o len cap args regs rest oc oa ok op lc cc la ca lk ck lp cp B w ha hv hB r hr
  | 15, _ => exact fits_15 d a b l o len cap args regs rest oc oa ok op lc cc la ca lk ck lp cp B w ha hv hB r hr
  | 16, _ => exact fits_16 d a b l o len cap args regs rest oc oa ok op lc cc la ca lk ck lp cp B w ha hv hB r hr
  | 17, _ => exact fits_17 d a b l o len cap args regs rest oc oa ok op lc cc la ca lk ck lp cp B w ha hv hB r hr
  | 18, _ => exact fits_18 d a b l o len cap args regs rest oc oa ok op lc cc la ca lk ck lp cp B w ha hv hB r hr
  | 19, _ => exact fits_19 d a b l o len cap args regs rest oc oa ok op lc cc la ca lk ck lp cp B w ha hv hB r hr
  | 20, _ => exact fits_20 d a b l o len cap args regs rest oc oa ok op lc cc la ca lk ck lp cp B w ha hv hB r hr
  | 21, _ => exact fits_21 d a b l o len cap args regs rest oc oa ok op lc cc la ca lk ck lp cp B w ha hv hB r hr
  | 22, _ => exact fits_22 d a b l o len cap args regs rest oc oa ok op lc cc la ca lk ck lp cp B w ha hv hB r hr
  | n + 23, h => omega
end Go.Proofs.YtigkhmppnnljiaaGreatDoor

namespace Go.Proofs.YtigkhmppnnljiaaGreatDoor
open Go.RowKit

theorem ownsRow_set {W : World} {base n size : Nat} {e : TypeId} {v : Value} {xs : List Value} (h : W.ownsRow base e size v n xs) (a : Addr) (u : Value) (hne : ∀ g, v.ownBlock = some g → g ≠ a.block) : (W.setCell a u).ownsRow base e size v n xs :=
  h.kept (row := some a.block) ⟨rfl, rfl, rfl, by simp, fun k _ hk => setCell_heap_other W a u (fun e => hk (by rw [e]))⟩ (by
    cases hv : v.ownBlock with
    | none => exact .inl rfl
    | some g => exact .inr (fun e => hne g hv (by simpa using e)))
theorem ownsRow_base {W : World} {base base' n size : Nat} {e : TypeId} {v : Value} {xs : List Value} (h : W.ownsRow base e size v n xs) (hb : base' ≤ base) : W.ownsRow base' e size v n xs := by
  refine ⟨h.1, ?_⟩
  rcases h.2 with h' | ⟨g, cap, cur, h1, h2, h3⟩
  · exact .inl h'
  · exact .inr ⟨g, cap, cur, h1, Nat.le_trans hb h2, h3⟩
end Go.Proofs.YtigkhmppnnljiaaGreatDoor

namespace Go.Proofs.YtigkhmppnnljiaaGreatDoor

namespace Trm
/-- Sorts of terms of a module. -/
def sortB (op : Int) : Bool := [0, 1, 3, 5, 6, 8, 9, 10, 11, 12, 13, 15, 16, 17, 18, 19, 20, 21, 22].contains op
/-- As many parts and variables as there must be. -/
def countsB (op : Int) (nv nt : Nat) : Bool :=
  if op = 8 ∨ op = 9 then decide (nt = nv + 1)
  else decide (nv = 0) && (if op = 0 ∨ op = 1 ∨ op = 11 ∨ op = 13 ∨ op = 20 ∨ op = 21 then decide (nt = 0)
    else if op = 12 ∨ op = 15 ∨ op = 16 then decide (nt = 1)
    else if op = 17 ∨ op = 18 then decide (nt = 2)
    else if op = 3 then decide (nt = 3)
    else if op = 5 ∨ op = 6 ∨ op = 22 then decide (1 ≤ nt)
    else true)
/-- A term's number, in a module of so many constants and codes; fr: may it name what a closure is over? -/
def numberB (nc nk : Int) (fr : Bool) (sc : Int → Bool) (op n : Int) : Bool :=
  if op = 0 then decide (0 ≤ n) && decide (n < nc)
  else if op = 1 then sc n
  else if op = 10 ∨ op = 11 then decide (0 ≤ n) && decide (n < 31)
  else if op = 19 ∨ op = 21 ∨ op = 22 then decide (0 ≤ n) && decide (n < nk)
  else if op = 20 then decide (0 ≤ n) && fr
  else decide (n = 0)
/-- A set of variables, and those of a list. -/
def addV (sc : Int → Bool) (v : List Int) : Int → Bool := fun x => sc x || v.contains x
mutual
/-- Is a term right, but for what is bound twice? -/
def wf (nc nk : Int) (fr : Bool) : Trm → (Int → Bool) → Bool
  | mk op n v t, sc => sortB op && (countsB op v.length t.length && (numberB nc nk fr sc op n && wfL nc nk fr op v t sc))
def wfL (nc nk : Int) (fr : Bool) : Int → List Int → List Trm → (Int → Bool) → Bool
  | _, _, [], _ => true
  | _, v, [x], sc => wf nc nk fr x (addV sc v)
  | op, v, x :: y :: l, sc => (if op = 9 then decide (x.op = 19) && wf nc nk fr x (addV sc v) else wf nc nk fr x sc) && wfL nc nk fr op v (y :: l) sc
end
mutual
/-- All variables that a term binds. -/
def bnd : Trm → List Int
  | mk _ _ v t => v ++ bndL t
def bndL : List Trm → List Int
  | [] => []
  | x :: l => bnd x ++ bndL l
end
/-- Variables in range, none twice, none of a set. -/
def newB (S : Int → Bool) : List Int → Bool
  | [] => true
  | x :: l => (decide (0 ≤ x) && (decide (x ≤ 1000000) && !S x)) && newB (addV S [x]) l
end Trm

/-- What the maker holds: instructions, how many registers, which one a variable has. -/
structure MSt where
  code : List Ins
  regs : Int
  vars : List (Int × Int)
namespace MSt
def put (s : MSt) (x : Ins) : MSt := { s with code := s.code ++ [x] }
def fresh (s : MSt) : MSt := { s with regs := s.regs + 1 }
def setA (s : MSt) (k : Nat) (a : Int) : MSt := { s with code := s.code.modify k fun x => { x with a := a } }
def setB (s : MSt) (k : Nat) (b : Int) : MSt := { s with code := s.code.modify k fun x => { x with b := b } }
def len (s : MSt) : Int := s.code.length
def bind (s : MSt) (v r : List Int) : MSt := { s with vars := s.vars ++ v.zip r }
end MSt

namespace Mk
/-- The last one. -/
def lkL : List (Int × Int) → Int → Int
  | [], _ => 0
  | p :: l, v => if l.any (fun q => q.1 == v) then lkL l v else if p.1 = v then p.2 else 0

/-- A value of parts that are had comes into a register. -/
def strict (op n d : Int) (l : List Int) (s : MSt) : MSt :=
  if op = 0 then s.put ⟨0, d, n, 0, []⟩
  else if op = 11 then s.put ⟨2, d, n, 0, []⟩
  else if op = 13 then s.put ⟨3, d, 0, 0, []⟩
  else if op = 21 then s.put ⟨5, d, n, 0, []⟩
  else if op = 20 then s.put ⟨6, d, n, 0, []⟩
  else if op = 5 then s.put ⟨17, d, l.headD 0, 0, l.tail⟩
  else if op = 22 then s.put ⟨18, d, n, l.headD 0, l.tail⟩
  else if op = 10 then s.put ⟨9, d, n, 0, l⟩
  else if op = 19 then s.put ⟨7, d, n, 0, l⟩
  else if op = 12 then s.put ⟨14, d, l.headD 0, 0, []⟩
  else if op = 15 then s.put ⟨10, d, l.headD 0, 0, []⟩
  else if op = 16 then s.put ⟨11, d, l.headD 0, 0, []⟩
  else if op = 17 then (s.put ⟨12, 0, l.headD 0, l.tail.headD 0, []⟩).put ⟨4, d, 0, 0, []⟩
  else if op = 18 then (s.put ⟨13, 0, l.headD 0, l.tail.headD 0, []⟩).put ⟨4, d, 0, 0, []⟩
  else s
/-- A call at the end, of parts that are had. -/
def ended (op n : Int) (l : List Int) (s : MSt) : MSt :=
  if op = 5 then s.put ⟨19, 0, l.headD 0, 0, l.tail⟩
  else if op = 22 then s.put ⟨20, 0, n, l.headD 0, l.tail⟩
  else s.put ⟨21, 0, n, 0, l⟩
def endsB (op n : Int) : Bool := decide (op = 5) || (decide (op = 22) || (decide (op = 10) && decide (29 ≤ n)))
/-- A term's register, from what lays it into one. -/
def hadW (lk : List (Int × Int) → Int → Int) (op n : Int) (f : Int → Bool → MSt → MSt) (s : MSt) : Int × MSt :=
  if op = 1 then (lk s.vars n, s) else (s.regs, f s.regs false s.fresh)
/-- A Fix's closures, with nothing in them. -/
def fix1 : List Int → List Trm → MSt → MSt
  | v :: vs, x :: l, s => fix1 vs l ((s.fresh.bind [v] [s.regs]).put ⟨7, s.regs, x.n, 0, []⟩)
  | _, _, s => s
def thens (f g : Int → Bool → MSt → MSt) (c d : Int) (e : Bool) (s : MSt) : MSt :=
  let s1 := s.put ⟨16, 0, c, 0, []⟩
  let s2 := f d e s1
  let s3 := if e then s2 else s2.put ⟨15, 0, 0, 0, []⟩
  let s4 := s3.setB s.code.length s3.len
  let s5 := g d e s4
  if e then s5 else s5.setA s2.code.length s5.len
mutual
/-- A term's value comes into a register; at the end it is what the procedure makes. -/
def into (lk : List (Int × Int) → Int → Int) : Trm → Int → Bool → MSt → MSt
  | .mk op n v t, d, e, s =>
    if op = 3 then choice lk t d e s
    else if op = 6 then seqs lk t d e s
    else if op = 8 then lets lk t v [] d e s
    else if op = 9 then fixs lk t v d e (fix1 v t s)
    else if e then
      if endsB op n then let p := allT lk t s; ended op n p.1 p.2
      else if op = 1 then s.put ⟨22, 0, lk s.vars n, 0, []⟩
      else let p := allT lk t s.fresh; (strict op n s.regs p.1 p.2).put ⟨22, 0, s.regs, 0, []⟩
    else if op = 1 then s.put ⟨1, d, lk s.vars n, 0, []⟩
    else let p := allT lk t s; strict op n d p.1 p.2
def choice (lk : List (Int × Int) → Int → Int) : List Trm → Int → Bool → MSt → MSt
  | [a, b, c], d, e, s => let p := hadW lk a.op a.n (into lk a) s; thens (into lk b) (into lk c) p.1 d e p.2
  | _, _, _, s => s
def allT (lk : List (Int × Int) → Int → Int) : List Trm → MSt → List Int × MSt
  | [], s => ([], s)
  | x :: l, s => let p := hadW lk x.op x.n (into lk x) s; let q := allT lk l p.2; (p.1 :: q.1, q.2)
def seqs (lk : List (Int × Int) → Int → Int) : List Trm → Int → Bool → MSt → MSt
  | [], _, _, s => s
  | [x], d, e, s => into lk x d e s
  | x :: y :: l, d, e, s => let p := hadW lk x.op x.n (into lk x) s; seqs lk (y :: l) d e p.2
def lets (lk : List (Int × Int) → Int → Int) : List Trm → List Int → List Int → Int → Bool → MSt → MSt
  | [], _, _, _, _, s => s
  | [x], v, rs, d, e, s => into lk x d e (s.bind v rs)
  | x :: y :: l, v, rs, d, e, s => let p := hadW lk x.op x.n (into lk x) s; lets lk (y :: l) v (rs ++ [p.1]) d e p.2
def fixs (lk : List (Int × Int) → Int → Int) : List Trm → List Int → Int → Bool → MSt → MSt
  | [], _, _, _, s => s
  | [x], _, d, e, s => into lk x d e s
  | .mk _ _ _ t :: y :: l, v, d, e, s => let p := allT lk t s; fixs lk (y :: l) v.tail d e (p.2.put ⟨8, 0, lk p.2.vars (v.headD 0), 0, p.1⟩)
end
def had (lk : List (Int × Int) → Int → Int) (x : Trm) (s : MSt) : Int × MSt := hadW lk x.op x.n (into lk x) s
/-- A code's procedure. -/
def proc (lk : List (Int × Int) → Int → Int) (c : Cod) : Proc :=
  let s := into lk c.body 0 true ⟨[], c.v.length, c.v.zip ((List.range c.v.length).map fun (i : Nat) => (i : Int))⟩
  ⟨c.v.length, c.rest, s.regs, s.code, []⟩
end Mk

namespace Mdl
/-- Are a module's codes right? B: what is bound so far. -/
def codesB (nc nk : Int) : List Cod → (Int → Bool) → Bool
  | [], _ => true
  | c :: l, B => (!c.rest || decide (0 < c.v.length)) && (Trm.newB B (c.v ++ c.body.bnd) && (c.body.wf nc nk true (Trm.addV (fun _ => false) c.v) && codesB nc nk l (Trm.addV B (c.v ++ c.body.bnd))))
/-- Is a module right? -/
def okB (m : Mdl) : Bool := (m.consts.all fun x => Dat.right x 0) && ((m.body.wf m.consts.length m.codes.length false (fun _ => false) && Trm.newB (fun _ => false) m.body.bnd) && codesB m.consts.length m.codes.length m.codes (Trm.addV (fun _ => false) m.body.bnd))
/-- A module's unit. -/
def unit (lk : List (Int × Int) → Int → Int) (m : Mdl) : Unt := ⟨m.consts, m.codes.map (Mk.proc lk) ++ [Mk.proc lk ⟨[], false, m.body⟩]⟩
def makeErr (lk : List (Int × Int) → Int → Int) (m : Mdl) : Int := if m.okB && (m.unit lk).okB then 0 else 5
def makeU (lk : List (Int × Int) → Int → Int) (m : Mdl) : Unt := if m.okB && (m.unit lk).okB then m.unit lk else ⟨[], []⟩
end Mdl
end Go.Proofs.YtigkhmppnnljiaaGreatDoor

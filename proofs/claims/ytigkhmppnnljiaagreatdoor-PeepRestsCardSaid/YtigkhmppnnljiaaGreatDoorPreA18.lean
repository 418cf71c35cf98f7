/-
  What the proofs lean on: PNamed, Fits, Mk, RBare, FewT, TrmN.
-/
import Derived.Laws.EntriesVeiled
import Derived.Deep.Cut
import Derived.Deep.CutRange
import Derived.Deep.DeepCutAuto
import Derived.Deep.LoopGhost
import Derived.Test.YtigkhmppnnljiaaGreatDoorPreA07
import Derived.Test.YtigkhmppnnljiaaGreatDoorPreA12
import Derived.Test.YtigkhmppnnljiaaGreatDoorPreA14
import Derived.Test.YtigkhmppnnljiaaGreatDoorPreA15
import Derived.Test.YtigkhmppnnljiaaGreatDoorPreA16
import Derived.Test.YtigkhmppnnljiaaGreatDoorPreA17
set_option maxRecDepth 100000
set_option maxHeartbeats 16000000
namespace Go.Proofs.YtigkhmppnnljiaaGreatDoor
section
open Go.RowKit
theorem two_boxes {w w1 : World} {A B : List Value} {t u : TypeId} (hb : Below ((w.alloc (.cells A.toArray t)).alloc (.cells B.toArray u)).heap.size ((w.alloc (.cells A.toArray t)).alloc (.cells B.toArray u)) w1) :
  BoxL w1 w.heap.size t A ∧ BoxL w1 (w.heap.size + 1) u B ∧ Below w.heap.size w w1 :=
 ⟨((BoxL.new rfl t A).alloc _).keep hb, (BoxL.new (by simp) u B).keep hb, (((Below.refl _ _).alloc (Nat.le_refl _) _).alloc (by simp) _).trans (hb.mono (by simp; omega))⟩
theorem box5_of {W : World} {b : Nat} {t : TypeId} {c0 c1 c2 c3 c4 : Value} (h : BoxL W b t [c0, c1, c2, c3, c4]) : Box5 W b t c0 c1 c2 c3 c4 := h
def InsV (x : Ins) (sl : Value) : Value := .agg #[.int .i64 x.op, .int .i64 x.d, .int .i64 x.a, .int .i64 x.b, sl]
theorem pnamed_15 (F : FuncId) (caps : Array Value) (g : Int → Int) (d a b : Int) (sl : Value) (w : World) (hsl : ∃ o len cap, sl = .slice o len cap) (hF : ∀ (args : Array Value) (w : World), (callFunc F args).run Tryz.prog w = .ok (.enter F args) w) (H : ∀ W, Below w.heap.size w W → Calls Tryz.prog F (#[.int .i64 a] ++ caps) W fun e w' => e = .returned (.int .i64 (g a)) ∧ Below W.heap.size W w') :
  Calls Tryz.prog 85 #[.agg #[.int .i64 15, .int .i64 d, .int .i64 a, .int .i64 b, sl], .func (.func F) #[] caps] w fun e w' => e = .returned (.agg #[.int .i64 15, .int .i64 d, .int .i64 (g a), .int .i64 b, sl]) ∧ Below w.heap.size w w' := by
 obtain ⟨o, len, cap, rfl⟩ := hsl
 have HC := Lib.hid (fun X Y => H ((w.alloc X).alloc Y) ((Below.one w X).trans ((Below.one _ Y).mono (by simp))))
 clear H
 go_enter Tryz.func85, Tryz.ntmps85
 go_wp2_with fail
 with_reducible refine (HC.out _ _).mono ?_
 rintro e w1 ⟨rfl, hb1⟩
 obtain ⟨bx, br, hb⟩ := two_boxes hb1
 have HB := Lib.hid hb
 have x0 := bx.cell 0 rfl
 have xf := bx.cell 2 rfl
 have y0 := bx.free 2
 have hlx := bx.lt
 have HX := Lib.hid (show BoxL (w1.setCell ⟨w.heap.size, 2, none⟩ (.int .i64 (g a))) w.heap.size 34 [.int .i64 15, .int .i64 d, .int .i64 (g a), .int .i64 b, .slice o len cap] from bx.set 2 _)
 have HR := Lib.hid (show BoxL (w1.setCell ⟨w.heap.size, 2, none⟩ (.int .i64 (g a))) (w.heap.size + 1) 34 [.int .i64 0, .int .i64 0, .int .i64 0, .int .i64 0, .slice none 0 0] from br.other _ _ (by simp))
 have HBS := Lib.hid (hb.setCell (p := ⟨w.heap.size, 2, none⟩) (Nat.le_refl _) (.int .i64 (g a)))
 clear hb1 bx br hb HC
 go_upto_region 6 with fail
 generalize w1.setCell ⟨w.heap.size, 2, none⟩ (.int .i64 (g a)) = W at HX HR HBS ⊢
 have x0 := HX.out.cell 0 rfl
 have x1 := HX.out.cell 1 rfl
 have x2 := HX.out.cell 2 rfl
 have x3 := HX.out.cell 3 rfl
 have x4 := HX.out.cell 4 rfl
 have b5 := box5_of HR.out
 have hlr := HR.out.lt
 obtain ⟨q0, q1, q2, q3, q4⟩ := b5.cells
 obtain ⟨z0, z1, z2, z3, z4⟩ := b5.free
 have bN := b5.set (.int .i64 15) (.int .i64 d) (.int .i64 (g a)) (.int .i64 b) (.slice o len cap)
 obtain ⟨r0, r1, r2, r3, r4⟩ := bN.cells
 have HBE := Lib.hid (HBS.out.trans (set5_below W (w.heap.size + 1) w.heap.size (.int .i64 15) (.int .i64 d) (.int .i64 (g a)) (.int .i64 b) (.slice o len cap) (by omega)))
 clear b5 bN
 go_wp2_with fail
 exact bodyPost_ret (v := .agg #[.int .i64 15, .int .i64 d, .int .i64 (g a), .int .i64 b, .slice o len cap]) (by simp [results, Tryz.results85, go_sem, r0, r1, r2, r3, r4]) rfl ⟨rfl, HBE.out⟩
theorem pnamed_16 (F : FuncId) (caps : Array Value) (g : Int → Int) (d a b : Int) (sl : Value) (w : World) (hsl : ∃ o len cap, sl = .slice o len cap) (hF : ∀ (args : Array Value) (w : World), (callFunc F args).run Tryz.prog w = .ok (.enter F args) w) (H : ∀ W, Below w.heap.size w W → Calls Tryz.prog F (#[.int .i64 b] ++ caps) W fun e w' => e = .returned (.int .i64 (g b)) ∧ Below W.heap.size W w') :
  Calls Tryz.prog 85 #[.agg #[.int .i64 16, .int .i64 d, .int .i64 a, .int .i64 b, sl], .func (.func F) #[] caps] w fun e w' => e = .returned (.agg #[.int .i64 16, .int .i64 d, .int .i64 a, .int .i64 (g b), sl]) ∧ Below w.heap.size w w' := by
 obtain ⟨o, len, cap, rfl⟩ := hsl
 have HC := Lib.hid (fun X Y => H ((w.alloc X).alloc Y) ((Below.one w X).trans ((Below.one _ Y).mono (by simp))))
 clear H
 go_enter Tryz.func85, Tryz.ntmps85
 go_wp2_with fail
 with_reducible refine (HC.out _ _).mono ?_
 rintro e w1 ⟨rfl, hb1⟩
 obtain ⟨bx, br, hb⟩ := two_boxes hb1
 have HB := Lib.hid hb
 have x0 := bx.cell 0 rfl
 have xf := bx.cell 3 rfl
 have y0 := bx.free 3
 have hlx := bx.lt
 have HX := Lib.hid (show BoxL (w1.setCell ⟨w.heap.size, 3, none⟩ (.int .i64 (g b))) w.heap.size 34 [.int .i64 16, .int .i64 d, .int .i64 a, .int .i64 (g b), .slice o len cap] from bx.set 3 _)
 have HR := Lib.hid (show BoxL (w1.setCell ⟨w.heap.size, 3, none⟩ (.int .i64 (g b))) (w.heap.size + 1) 34 [.int .i64 0, .int .i64 0, .int .i64 0, .int .i64 0, .slice none 0 0] from br.other _ _ (by simp))
 have HBS := Lib.hid (hb.setCell (p := ⟨w.heap.size, 3, none⟩) (Nat.le_refl _) (.int .i64 (g b)))
 clear hb1 bx br hb HC
 go_upto_region 6 with fail
 generalize w1.setCell ⟨w.heap.size, 3, none⟩ (.int .i64 (g b)) = W at HX HR HBS ⊢
 have x0 := HX.out.cell 0 rfl
 have x1 := HX.out.cell 1 rfl
 have x2 := HX.out.cell 2 rfl
 have x3 := HX.out.cell 3 rfl
 have x4 := HX.out.cell 4 rfl
 have b5 := box5_of HR.out
 have hlr := HR.out.lt
 obtain ⟨q0, q1, q2, q3, q4⟩ := b5.cells
 obtain ⟨z0, z1, z2, z3, z4⟩ := b5.free
 have bN := b5.set (.int .i64 16) (.int .i64 d) (.int .i64 a) (.int .i64 (g b)) (.slice o len cap)
 obtain ⟨r0, r1, r2, r3, r4⟩ := bN.cells
 have HBE := Lib.hid (HBS.out.trans (set5_below W (w.heap.size + 1) w.heap.size (.int .i64 16) (.int .i64 d) (.int .i64 a) (.int .i64 (g b)) (.slice o len cap) (by omega)))
 clear b5 bN
 go_wp2_with fail
 exact bodyPost_ret (v := .agg #[.int .i64 16, .int .i64 d, .int .i64 a, .int .i64 (g b), .slice o len cap]) (by simp [results, Tryz.results85, go_sem, r0, r1, r2, r3, r4]) rfl ⟨rfl, HBE.out⟩
theorem pnamed_other (k : Int) (h15 : k ≠ 15) (h16 : k ≠ 16) (F : FuncId) (caps : Array Value) (d a b : Int) (sl : Value) (w : World) (hsl : ∃ o len cap, sl = .slice o len cap) :
  Calls Tryz.prog 85 #[.agg #[.int .i64 k, .int .i64 d, .int .i64 a, .int .i64 b, sl], .func (.func F) #[] caps] w fun e w' => e = .returned (.agg #[.int .i64 k, .int .i64 d, .int .i64 a, .int .i64 b, sl]) ∧ Below w.heap.size w w' := by
 obtain ⟨o, len, cap, rfl⟩ := hsl
 have f15 : (k == 15) = false := by simpa using h15
 have f16 : (k == 16) = false := by simpa using h16
 go_enter Tryz.func85, Tryz.ntmps85
 go_wp2_with fail
 exact bodyPost_ret (v := .agg #[.int .i64 k, .int .i64 d, .int .i64 a, .int .i64 b, .slice o len cap]) (by simp [results, Tryz.results85, go_sem]) rfl ⟨rfl, (Below.one w _).trans ((Below.one _ _).mono (by simp))⟩
theorem pnamed_any (F : FuncId) (caps : Array Value) (g : Int → Int) (x : Ins) (c0 c1 c2 c3 c4 : Value) (B : Nat) (w : World) (hx : InsR w B x [c0, c1, c2, c3, c4]) (hF : ∀ (args : Array Value) (w : World), (callFunc F args).run Tryz.prog w = .ok (.enter F args) w)
  (H : ∀ t W, (x.op = 15 ∧ t = x.a ∨ x.op = 16 ∧ t = x.b) → Below w.heap.size w W → Calls Tryz.prog F (#[.int .i64 t] ++ caps) W fun e w' => e = .returned (.int .i64 (g t)) ∧ Below W.heap.size W w') :
  Calls Tryz.prog 85 #[.agg #[c0, c1, c2, c3, c4], .func (.func F) #[] caps] w fun e w' => e = .returned (InsV (Peep.mapT g x) c4) ∧ Below w.heap.size w w' := by
 obtain ⟨k, d, a, b, l⟩ := x
 obtain ⟨sl, he, _, _, _, _, hl⟩ := hx
 simp only [List.cons.injEq, and_true] at he
 obtain ⟨rfl, rfl, rfl, rfl, rfl⟩ := he
 by_cases h15 : k = 15
 ·subst h15
  have := pnamed_15 F caps g d a b c4 w hl.form hF (fun W hW => H a W (.inl ⟨rfl, rfl⟩) hW)
  simpa [InsV, Peep.mapT] using this
 by_cases h16 : k = 16
 ·subst h16
  have := pnamed_16 F caps g d a b c4 w hl.form hF (fun W hW => H b W (.inr ⟨rfl, rfl⟩) hW)
  simpa [InsV, Peep.mapT] using this
 ·have := pnamed_other k h15 h16 F caps d a b c4 w hl.form
  simpa [InsV, Peep.mapT, h15, h16] using this
end
section
open Go.RowKit
theorem fits_any (k : Int) (d a b : Int) (l : List Int) (o : Option Addr) (len cap : Nat) (args regs : Int) (rest : Bool) (oc oa ok op : Option Addr) (lc cc la ca lk ck lp cp : Nat) (B : Nat) (w : World) (ha : -9223372036854775808 ≤ a ∧ a ≤ 9223372036854775807) (hv : SlC w B 1 IntR l (.slice o len cap)) (hB : B ≤ w.heap.size) (r : Bool) (hr : Unt.fits ⟨k, d, a, b, l⟩ regs lc lp lk = r) :
  Calls Tryz.prog 34 #[.agg #[.int .i64 k, .int .i64 d, .int .i64 a, .int .i64 b, .slice o len cap], .agg #[.int .i64 args, .bool rest, .int .i64 regs, .slice oc lc cc, .slice oa la ca], .agg #[.slice ok lk ck, .slice op lp cp]] w fun e w' => e = .returned (.bool r) ∧ Below w.heap.size w w' := by
 by_cases hk : k < 0 ∨ 22 < k
 ·exact fits_no k hk d a b l o len cap args regs rest oc oa ok op lc cc la ca lk ck lp cp B w ha hv hB r hr
 obtain ⟨n, rfl⟩ : ∃ n : Nat, k = n := ⟨k.toNat, by omega⟩
 have hn : n ≤ 22 := by omega
 clear hk
 match n, hn with
 | 0, _ => exact fits_0 d a b l o len cap args regs rest oc oa ok op lc cc la ca lk ck lp cp B w ha hv hB r hr
 | 1, _ => exact fits_1 d a b l o len cap args regs rest oc oa ok op lc cc la ca lk ck lp cp B w ha hv hB r hr
 | 2, _ => exact fits_2 d a b l o len cap args regs rest oc oa ok op lc cc la ca lk ck lp cp B w ha hv hB r hr
 | 3, _ => exact fits_3 d a b l o len cap args regs rest oc oa ok op lc cc la ca lk ck lp cp B w ha hv hB r hr
 | 4, _ => exact fits_4 d a b l o len cap args regs rest oc oa ok op lc cc la ca lk ck lp cp B w ha hv hB r hr
 | 5, _ => exact fits_5 d a b l o len cap args regs rest oc oa ok op lc cc la ca lk ck lp cp B w ha hv hB r hr
 | 6, _ => exact fits_6 d a b l o len cap args regs rest oc oa ok op lc cc la ca lk ck lp cp B w ha hv hB r hr
 | 7, _ => exact fits_7 d a b l o len cap args regs rest oc oa ok op lc cc la ca lk ck lp cp B w ha hv hB r hr
 | 8, _ => exact fits_8 d a b l o len cap args regs rest oc oa ok op lc cc la ca lk ck lp cp B w ha hv hB r hr
 | 9, _ => exact fits_9 d a b l o len cap args regs rest oc oa ok op lc cc la ca lk ck lp cp B w ha hv hB r hr
 | 10, _ => exact fits_10 d a b l o len cap args regs rest oc oa ok op lc cc la ca lk ck lp cp B w ha hv hB r hr
 | 11, _ => exact fits_11 d a b l o len cap args regs rest oc oa ok op lc cc la ca lk ck lp cp B w ha hv hB r hr
 | 12, _ => exact fits_12 d a b l o len cap args regs rest oc oa ok op lc cc la ca lk ck lp cp B w ha hv hB r hr
 | 13, _ => exact fits_13 d a b l o len cap args regs rest oc oa ok op lc cc la ca lk ck lp cp B w ha hv hB r hr
 | 14, _ => exact fits_14 d a b l o len cap args regs rest oc oa ok op lc cc la ca lk ck lp cp B w ha hv hB r hr
 | 15, _ => exact fits_15 d a b l o len cap args regs rest oc oa ok op lc cc la ca lk ck lp cp B w ha hv hB r hr
 | 16, _ => exact fits_16 d a b l o len cap args regs rest oc oa ok op lc cc la ca lk ck lp cp B w ha hv hB r hr
 | 17, _ => exact fits_17 d a b l o len cap args regs rest oc oa ok op lc cc la ca lk ck lp cp B w ha hv hB r hr
 | 18, _ => exact fits_18 d a b l o len cap args regs rest oc oa ok op lc cc la ca lk ck lp cp B w ha hv hB r hr
 | 19, _ => exact fits_19 d a b l o len cap args regs rest oc oa ok op lc cc la ca lk ck lp cp B w ha hv hB r hr
 | 20, _ => exact fits_20 d a b l o len cap args regs rest oc oa ok op lc cc la ca lk ck lp cp B w ha hv hB r hr
 | 21, _ => exact fits_21 d a b l o len cap args regs rest oc oa ok op lc cc la ca lk ck lp cp B w ha hv hB r hr
 | 22, _ => exact fits_22 d a b l o len cap args regs rest oc oa ok op lc cc la ca lk ck lp cp B w ha hv hB r hr
 | n + 23, h => omega
end
section
namespace Trm
def sortB (op : Int) : Bool := [0, 1, 3, 5, 6, 8, 9, 10, 11, 12, 13, 15, 16, 17, 18, 19, 20, 21, 22].contains op
def countsB (op : Int) (nv nt : Nat) : Bool :=
 if op = 8 ∨ op = 9 then decide (nt = nv + 1)
 else decide (nv = 0) && (if op = 0 ∨ op = 1 ∨ op = 11 ∨ op = 13 ∨ op = 20 ∨ op = 21 then decide (nt = 0)
  else if op = 12 ∨ op = 15 ∨ op = 16 then decide (nt = 1)
  else if op = 17 ∨ op = 18 then decide (nt = 2)
  else if op = 3 then decide (nt = 3)
  else if op = 5 ∨ op = 6 ∨ op = 22 then decide (1 ≤ nt)
  else true)
def numberB (nc nk : Int) (fr : Bool) (sc : Int → Bool) (op n : Int) : Bool :=
 if op = 0 then decide (0 ≤ n) && decide (n < nc)
 else if op = 1 then sc n
 else if op = 10 ∨ op = 11 then decide (0 ≤ n) && decide (n < 31)
 else if op = 19 ∨ op = 21 ∨ op = 22 then decide (0 ≤ n) && decide (n < nk)
 else if op = 20 then decide (0 ≤ n) && fr
 else decide (n = 0)
def addV (sc : Int → Bool) (v : List Int) : Int → Bool := fun x => sc x || v.contains x
mutual
def wf (nc nk : Int) (fr : Bool) : Trm → (Int → Bool) → Bool
 | mk op n v t, sc => sortB op && (countsB op v.length t.length && (numberB nc nk fr sc op n && wfL nc nk fr op v t sc))
def wfL (nc nk : Int) (fr : Bool) : Int → List Int → List Trm → (Int → Bool) → Bool
 | _, _, [], _ => true
 | _, v, [x], sc => wf nc nk fr x (addV sc v)
 | op, v, x :: y :: l, sc => (if op = 9 then decide (x.op = 19) && wf nc nk fr x (addV sc v) else wf nc nk fr x sc) && wfL nc nk fr op v (y :: l) sc
end
mutual
def bnd : Trm → List Int
 | mk _ _ v t => v ++ bndL t
def bndL : List Trm → List Int
 | [] => []
 | x :: l => bnd x ++ bndL l
end
def newB (S : Int → Bool) : List Int → Bool
 | [] => true
 | x :: l => (decide (0 ≤ x) && (decide (x ≤ 1000000) && !S x)) && newB (addV S [x]) l
end Trm
structure MSt where
 code : List Ins
 regs : Int
 vars : List (Int × Int)
namespace MSt
def put (s : MSt) (x : Ins) : MSt := { s with code := s.code ++ [x] }
def fresh (s : MSt) : MSt := { s with regs := s.regs + 1 }
def setA (s : MSt) (k : Nat) (a : Int) : MSt := { s with code := s.code.modify k fun x => { x with a := a } }
def setB (s : MSt) (k : Nat) (b : Int) : MSt := { s with code := s.code.modify k fun x => { x with b := b } }
def len (s : MSt) : Int := s.code.length
def bind (s : MSt) (v r : List Int) : MSt := { s with vars := s.vars ++ v.zip r }
end MSt
namespace Mk
def lkF : List (Int × Int) → Int → Int
 | [], _ => 0
 | p :: l, v => if p.1 = v then p.2 else lkF l v
def lkL : List (Int × Int) → Int → Int
 | [], _ => 0
 | p :: l, v => if l.any (fun q => q.1 == v) then lkL l v else if p.1 = v then p.2 else 0
def strict (op n d : Int) (l : List Int) (s : MSt) : MSt :=
 if op = 0 then s.put ⟨0, d, n, 0, []⟩
 else if op = 11 then s.put ⟨2, d, n, 0, []⟩
 else if op = 13 then s.put ⟨3, d, 0, 0, []⟩
 else if op = 21 then s.put ⟨5, d, n, 0, []⟩
 else if op = 20 then s.put ⟨6, d, n, 0, []⟩
 else if op = 5 then s.put ⟨17, d, l.headD 0, 0, l.tail⟩
 else if op = 22 then s.put ⟨18, d, n, l.headD 0, l.tail⟩
 else if op = 10 then s.put ⟨9, d, n, 0, l⟩
 else if op = 19 then s.put ⟨7, d, n, 0, l⟩
 else if op = 12 then s.put ⟨14, d, l.headD 0, 0, []⟩
 else if op = 15 then s.put ⟨10, d, l.headD 0, 0, []⟩
 else if op = 16 then s.put ⟨11, d, l.headD 0, 0, []⟩
 else if op = 17 then (s.put ⟨12, 0, l.headD 0, l.tail.headD 0, []⟩).put ⟨4, d, 0, 0, []⟩
 else if op = 18 then (s.put ⟨13, 0, l.headD 0, l.tail.headD 0, []⟩).put ⟨4, d, 0, 0, []⟩
 else s
def ended (op n : Int) (l : List Int) (s : MSt) : MSt :=
 if op = 5 then s.put ⟨19, 0, l.headD 0, 0, l.tail⟩
 else if op = 22 then s.put ⟨20, 0, n, l.headD 0, l.tail⟩
 else s.put ⟨21, 0, n, 0, l⟩
def endsB (op n : Int) : Bool := decide (op = 5) || (decide (op = 22) || (decide (op = 10) && decide (29 ≤ n)))
def hadW (lk : List (Int × Int) → Int → Int) (op n : Int) (f : Int → Bool → MSt → MSt) (s : MSt) : Int × MSt :=
 if op = 1 then (lk s.vars n, s) else (s.regs, f s.regs false s.fresh)
def fix1 : List Int → List Trm → MSt → MSt
 | v :: vs, x :: l, s => fix1 vs l ((s.fresh.bind [v] [s.regs]).put ⟨7, s.regs, x.n, 0, []⟩)
 | _, _, s => s
def thens (f g : Int → Bool → MSt → MSt) (c d : Int) (e : Bool) (s : MSt) : MSt :=
 let s1 := s.put ⟨16, 0, c, 0, []⟩
 let s2 := f d e s1
 let s3 := if e then s2 else s2.put ⟨15, 0, 0, 0, []⟩
 let s4 := s3.setB s.code.length s3.len
 let s5 := g d e s4
 if e then s5 else s5.setA s2.code.length s5.len
mutual
def into (lk : List (Int × Int) → Int → Int) : Trm → Int → Bool → MSt → MSt
 | .mk op n v t, d, e, s =>
  if op = 3 then choice lk t d e s
  else if op = 6 then seqs lk t d e s
  else if op = 8 then lets lk t v [] d e s
  else if op = 9 then fixs lk t v d e (fix1 v t s)
  else if e then
   if endsB op n then let p := allT lk t s; ended op n p.1 p.2
   else if op = 1 then s.put ⟨22, 0, lk s.vars n, 0, []⟩
   else let p := allT lk t s.fresh; (strict op n s.regs p.1 p.2).put ⟨22, 0, s.regs, 0, []⟩
  else if op = 1 then s.put ⟨1, d, lk s.vars n, 0, []⟩
  else let p := allT lk t s; strict op n d p.1 p.2
def choice (lk : List (Int × Int) → Int → Int) : List Trm → Int → Bool → MSt → MSt
 | [a, b, c], d, e, s => let p := hadW lk a.op a.n (into lk a) s; thens (into lk b) (into lk c) p.1 d e p.2
 | _, _, _, s => s
def allT (lk : List (Int × Int) → Int → Int) : List Trm → MSt → List Int × MSt
 | [], s => ([], s)
 | x :: l, s => let p := hadW lk x.op x.n (into lk x) s; let q := allT lk l p.2; (p.1 :: q.1, q.2)
def seqs (lk : List (Int × Int) → Int → Int) : List Trm → Int → Bool → MSt → MSt
 | [], _, _, s => s
 | [x], d, e, s => into lk x d e s
 | x :: y :: l, d, e, s => let p := hadW lk x.op x.n (into lk x) s; seqs lk (y :: l) d e p.2
def lets (lk : List (Int × Int) → Int → Int) : List Trm → List Int → List Int → Int → Bool → MSt → MSt
 | [], _, _, _, _, s => s
 | [x], v, rs, d, e, s => into lk x d e (s.bind v rs)
 | x :: y :: l, v, rs, d, e, s => let p := hadW lk x.op x.n (into lk x) s; lets lk (y :: l) v (rs ++ [p.1]) d e p.2
def fixs (lk : List (Int × Int) → Int → Int) : List Trm → List Int → Int → Bool → MSt → MSt
 | [], _, _, _, s => s
 | [x], _, d, e, s => into lk x d e s
 | .mk _ _ _ t :: y :: l, v, d, e, s => let p := allT lk t s; fixs lk (y :: l) v.tail d e (p.2.put ⟨8, 0, lk p.2.vars (v.headD 0), 0, p.1⟩)
end
def had (lk : List (Int × Int) → Int → Int) (x : Trm) (s : MSt) : Int × MSt := hadW lk x.op x.n (into lk x) s
def proc (lk : List (Int × Int) → Int → Int) (c : Cod) : Proc :=
 let s := into lk c.body 0 true ⟨[], c.v.length, c.v.zip ((List.range c.v.length).map fun (i : Nat) => (i : Int))⟩
 ⟨c.v.length, c.rest, s.regs, s.code, []⟩
end Mk
namespace Mdl
def codesB (nc nk : Int) : List Cod → (Int → Bool) → Bool
 | [], _ => true
 | c :: l, B => (!c.rest || decide (0 < c.v.length)) && (Trm.newB B (c.v ++ c.body.bnd) && (c.body.wf nc nk true (Trm.addV (fun _ => false) c.v) && codesB nc nk l (Trm.addV B (c.v ++ c.body.bnd))))
def okB (m : Mdl) : Bool := (m.consts.all fun x => Dat.right x 0) && ((m.body.wf m.consts.length m.codes.length false (fun _ => false) && Trm.newB (fun _ => false) m.body.bnd) && codesB m.consts.length m.codes.length m.codes (Trm.addV (fun _ => false) m.body.bnd))
def unit (lk : List (Int × Int) → Int → Int) (m : Mdl) : Unt := ⟨m.consts, m.codes.map (Mk.proc lk) ++ [Mk.proc lk ⟨[], false, m.body⟩]⟩
end Mdl
end
section
open Go.RowKit
theorem bare_to (k d a b : Int) (l : List Int) (o : Option Addr) (len cap : Nat) (B : Nat) (w : World) (hk : -9223372036854775808 ≤ k ∧ k ≤ 9223372036854775807) (hd : -9223372036854775808 ≤ d ∧ d ≤ 9223372036854775807) (ha : -9223372036854775808 ≤ a ∧ a ≤ 9223372036854775807) (hb : -9223372036854775808 ≤ b ∧ b ≤ 9223372036854775807) (hv : SlC w B 1 IntR l (.slice o len cap)) (hB : B ≤ w.heap.size) (hmx : l.length ≤ 1000000) (h0 : 0 ≤ k) (h1 : k ≤ 22) (r : Bool) (hr : Unt.bare ⟨k, d, a, b, l⟩ = r) :
  Calls Tryz.prog 66 #[.agg #[.int .i64 k, .int .i64 d, .int .i64 a, .int .i64 b, .slice o len cap]] w fun e w' => e = .returned (.bool r) ∧ Below w.heap.size w w' := by
 obtain ⟨g, hg⟩ : ∃ g, Unt.gives ⟨k, d, a, b, l⟩ = g := ⟨_, rfl⟩
 obtain ⟨q1, hq1⟩ : ∃ q1, (decide (g < 0) && decide (d ≠ 0)) = q1 := ⟨_, rfl⟩
 obtain ⟨q2, hq2⟩ : ∃ q2, (decide (a ≠ 0) && (decide (k = 3) || decide (k = 4))) = q2 := ⟨_, rfl⟩
 obtain ⟨q3, hq3⟩ : ∃ q3, (decide (b ≠ 0) && (decide (k ≠ 12) && (decide (k ≠ 13) && (decide (k ≠ 16) && (decide (k ≠ 18) && decide (k ≠ 20)))))) = q3 := ⟨_, rfl⟩
 obtain ⟨q4, hq4⟩ : ∃ q4, (decide (l.length = 0) || ((decide (7 ≤ k) && decide (k ≤ 9)) || (decide (17 ≤ k) && decide (k ≤ 21)))) = q4 := ⟨_, rfl⟩
 have HR := Lib.hid (show (!q1 && (!q2 && (!q3 && q4))) = r from by rw [← hr, Unt.bare, hg, ← hq1, ← hq2, ← hq3, ← hq4])
 have Hq1 := Lib.hid hq1
 have Hq2 := Lib.hid hq2
 have Hq3 := Lib.hid hq3
 have Hq4 := Lib.hid hq4
 have HGV := Lib.hid hg
 obtain ⟨hlen, hcap, hmax⟩ := hv.lens
 have HL := Lib.hid hlen
 have HC := Lib.hid (fun X => named_any ⟨k, d, a, b, l⟩ _ _ _ _ _ B (w.alloc X) ⟨.slice o len cap, rfl, hk, hd, ha, hb, hv.kept ((Below.one w X).mono hB) fun _ _ _ h => h⟩ (by simp; omega) hmx h0 h1)
 clear hr hv hg hlen hq1 hq2 hq3 hq4
 go_enter Tryz.func66, Tryz.ntmps66
 go_wp2_with fail
 refine (HC.out _).mono ?_
 rintro e w1 ⟨sl, rfl, _, hb1⟩
 rw [HGV.out]
 have bx : BoxL w1 w.heap.size 34 [.int .i64 k, .int .i64 d, .int .i64 a, .int .i64 b, .slice o len cap] := (BoxL.new rfl _ _).keep hb1
 have x0 := bx.cell 0 rfl
 have x1 := bx.cell 1 rfl
 have x2 := bx.cell 2 rfl
 have x3 := bx.cell 3 rfl
 have x4 := bx.cell 4 rfl
 have HB1 := Lib.hid (one_below hb1)
 clear hb1 bx HC
 go_upto_region 2 with fail
 go_cut [16] (fun c wx => c = .bool q1 ∧ w1 = wx)
 case first => as_aux_lemma =>
  by_cases hg : g < 0
  ·have f1 : decide (g < 0) = true := decide_eq_true hg
   by_cases hd0 : d = 0
   ·subst hd0
    obtain rfl : q1 = false := by rw [← Hq1.out]; simp
    go_wp2_with fail
    go_meet
    exact ⟨rfl, rfl⟩
   ·have f2 : (d != 0) = true := by simpa using hd0
    obtain rfl : q1 = true := by rw [← Hq1.out]; simp [hg, hd0]
    go_wp2_with fail
    go_meet
    exact ⟨rfl, rfl⟩
  ·have f1 : decide (g < 0) = false := decide_eq_false hg
   obtain rfl : q1 = false := by rw [← Hq1.out]; simp [hg]
   go_wp2_with fail
   go_meet
   exact ⟨rfl, rfl⟩
 case rest =>
  obtain ⟨rfl, rfl⟩ := hcut
  cases q1 with
  | true =>
   obtain rfl : r = false := by rw [← HR.out]; simp
   go_wp2_with fail
   go_ret
   exact ⟨rfl, HB1.out⟩
  | false =>
   go_upto_region 4 with fail
   go_cut [29] (fun c wx => c = .bool q2 ∧ w1 = wx)
   case first => as_aux_lemma =>
    by_cases ha0 : a = 0
    ·subst ha0
     obtain rfl : q2 = false := by rw [← Hq2.out]; simp
     go_wp2_with fail
     go_meet
     exact ⟨rfl, rfl⟩
    have f2 : (a != 0) = true := by simpa using ha0
    by_cases k3 : k = 3
    ·subst k3
     obtain rfl : q2 = true := by rw [← Hq2.out]; simp [ha0]
     go_wp2_with fail
     go_meet
     exact ⟨rfl, rfl⟩
    have f3 : (k == 3) = false := by simpa using k3
    by_cases k4 : k = 4
    ·subst k4
     obtain rfl : q2 = true := by rw [← Hq2.out]; simp [ha0]
     go_wp2_with fail
     go_meet
     exact ⟨rfl, rfl⟩
    have f4 : (k == 4) = false := by simpa using k4
    obtain rfl : q2 = false := by rw [← Hq2.out]; simp [k3, k4]
    go_wp2_with fail
    go_meet
    exact ⟨rfl, rfl⟩
   case rest =>
    obtain ⟨rfl, rfl⟩ := hcut
    cases q2 with
    | true =>
     obtain rfl : r = false := by rw [← HR.out]; simp
     go_wp2_with fail
     go_ret
     exact ⟨rfl, HB1.out⟩
    | false =>
     go_upto_region 6 with fail
     go_cut [57] (fun c wx => c = .bool q3 ∧ w1 = wx)
     case first => as_aux_lemma =>
      by_cases hb0 : b = 0
      ·subst hb0
       obtain rfl : q3 = false := by rw [← Hq3.out]; simp
       go_wp2_with fail
       go_meet
       exact ⟨rfl, rfl⟩
      have f2 : (b != 0) = true := by simpa using hb0
      by_cases k12 : k = 12
      ·subst k12
       obtain rfl : q3 = false := by rw [← Hq3.out]; simp
       go_wp2_with fail
       go_meet
       exact ⟨rfl, rfl⟩
      have f12 : (k != 12) = true := by simpa using k12
      by_cases k13 : k = 13
      ·subst k13
       obtain rfl : q3 = false := by rw [← Hq3.out]; simp
       go_wp2_with fail
       go_meet
       exact ⟨rfl, rfl⟩
      have f13 : (k != 13) = true := by simpa using k13
      by_cases k16 : k = 16
      ·subst k16
       obtain rfl : q3 = false := by rw [← Hq3.out]; simp
       go_wp2_with fail
       go_meet
       exact ⟨rfl, rfl⟩
      have f16 : (k != 16) = true := by simpa using k16
      by_cases k18 : k = 18
      ·subst k18
       obtain rfl : q3 = false := by rw [← Hq3.out]; simp
       go_wp2_with fail
       go_meet
       exact ⟨rfl, rfl⟩
      have f18 : (k != 18) = true := by simpa using k18
      by_cases k20 : k = 20
      ·subst k20
       obtain rfl : q3 = false := by rw [← Hq3.out]; simp
       go_wp2_with fail
       go_meet
       exact ⟨rfl, rfl⟩
      have f20 : (k != 20) = true := by simpa using k20
      obtain rfl : q3 = true := by rw [← Hq3.out]; simp [hb0, k12, k13, k16, k18, k20]
      go_wp2_with fail
      go_meet
      exact ⟨rfl, rfl⟩
     case rest =>
      obtain ⟨rfl, rfl⟩ := hcut
      cases q3 with
      | true =>
       obtain rfl : r = false := by rw [← HR.out]; simp
       go_wp2_with fail
       go_ret
       exact ⟨rfl, HB1.out⟩
      | false =>
       obtain rfl : q4 = r := by rw [← HR.out]; simp
       by_cases hl0 : len = 0
       ·subst hl0
        obtain rfl : q4 = true := by rw [← Hq4.out, decide_eq_true (show l.length = 0 from HL.out.symm)]; rfl
        go_wp2_with fail
        go_ret
        exact ⟨rfl, HB1.out⟩
       have hl0' : (len == 0) = false := by simpa using hl0
       have hl1 : ¬ l.length = 0 := by rw [← HL.out]; exact hl0
       have hl2 : ((len : Int) == 0) = false := by simpa using hl0
       rw [decide_eq_false hl1] at Hq4
       clear hl1
       by_cases k7 : 7 ≤ k
       ·have f7 : decide (7 ≤ k) = true := decide_eq_true k7
        by_cases k9 : k ≤ 9
        ·have f9 : decide (k ≤ 9) = true := decide_eq_true k9
         obtain rfl : q4 = true := by rw [← Hq4.out]; simp [k7, k9]
         go_wp2_with fail
         go_ret
         exact ⟨rfl, HB1.out⟩
        have f9 : decide (k ≤ 9) = false := decide_eq_false k9
        by_cases k17 : 17 ≤ k
        ·have f17 : decide (17 ≤ k) = true := decide_eq_true k17
         by_cases k21 : k ≤ 21
         ·have f21 : decide (k ≤ 21) = true := decide_eq_true k21
          obtain rfl : q4 = true := by rw [← Hq4.out]; simp [k17, k21]
          go_wp2_with fail
          go_ret
          exact ⟨rfl, HB1.out⟩
         ·have f21 : decide (k ≤ 21) = false := decide_eq_false k21
          obtain rfl : q4 = false := by rw [← Hq4.out]; simp [k9, k21]
          go_wp2_with fail
          go_ret
          exact ⟨rfl, HB1.out⟩
        ·have f17 : decide (17 ≤ k) = false := decide_eq_false k17
         obtain rfl : q4 = false := by rw [← Hq4.out]; simp [k9, k17]
         go_wp2_with fail
         go_ret
         exact ⟨rfl, HB1.out⟩
       ·have f7 : decide (7 ≤ k) = false := decide_eq_false k7
        have k17 : ¬ 17 ≤ k := by omega
        have f17 : decide (17 ≤ k) = false := decide_eq_false k17
        obtain rfl : q4 = false := by rw [← Hq4.out]; simp [k7, k17]
        go_wp2_with fail
        go_ret
        exact ⟨rfl, HB1.out⟩
end
section
open Go Go.RowKit
namespace Trm
mutual
def few : Trm → Int → Int
 | mk _ _ _ t, left => fewL t (left - 1)
def fewL : List Trm → Int → Int
 | [], c => c
 | x :: l, c => if 0 ≤ c then fewL l (few x c) else c
end
end Trm
theorem trm_form {W : World} {B : Nat} {x : Trm} {c0 c1 c2 c3 : Value} (h : TrmR W B x [c0, c1, c2, c3]) : ∃ q r u q' r' u', c0 = .int .i64 x.op ∧ c1 = .int .i64 x.n ∧ c2 = .slice q r u ∧ c3 = .slice q' r' u' := by
 obtain ⟨o, n, v, t⟩ := x
 obtain ⟨vs, ts, he, _, _, h3, h4⟩ := trmR_iff.1 h
 simp only [List.cons.injEq, and_true] at he
 obtain ⟨rfl, rfl, rfl, rfl⟩ := he
 obtain ⟨q, r, u, rfl⟩ := h3.form
 obtain ⟨q', r', u', rfl⟩ := h4.form
 exact ⟨_, _, _, _, _, _, rfl, rfl, rfl, rfl⟩
end
section
open Go Go.RowKit Go.Deep Go.ChangeShapes Go.WideShapes Go.ChangeAt
mutual
def Trm.short : Trm → Prop
 | .mk _ _ v t => v.length * 8 ≤ 140737488351232 ∧ Trm.shortL t
def Trm.shortL : List Trm → Prop
 | [] => True
 | x :: l => Trm.short x ∧ Trm.shortL l
end
def Cod.short (c : Cod) : Prop := c.v.length * 8 ≤ 140737488351232 ∧ c.body.short
def Mdl.short (m : Mdl) : Prop := (∀ c ∈ m.codes, c.short) ∧ m.body.short
theorem SlC.both {α : Type} {w : World} {B size : Nat} {R : α → List Value → Prop} {Q : α → Prop} {l : List α} {v : Value} (h : SlC w B size (fun x cs => R x cs ∧ Q x) l v) : SlC w B size R l v ∧ ∀ x ∈ l, Q x := by
 obtain ⟨o, len, cap, rfl, h1, h2, h3, h4⟩ := h
 cases o with
 | none => exact ⟨⟨none, len, cap, rfl, h1, h2, h3, h4⟩, fun x hx => by rw [h4.1] at hx; cases hx⟩
 | some a =>
  refine ⟨⟨some a, len, cap, rfl, h1, h2, h3, h4.1, fun i x hx => ?_⟩, fun x hx => ?_⟩
  ·obtain ⟨cs, g1, g2, g3⟩ := h4.2 i x hx
   exact ⟨cs, g1, g2, g3.1⟩
  ·obtain ⟨i, hi⟩ := List.getElem?_of_mem hx
   obtain ⟨cs, g1, g2, g3⟩ := h4.2 i x hi
   exact g3.2
section
variable {H : Type} {enc : TypeId × Value → H}
theorem len_of_trod {w : World} {ts te : TypeId} {bs : Nat} (hu : Tryz.prog.underlying ts = some (.slice te)) (hbs : Tryz.prog.bytesOf te = bs) {fuel : Nat} {o : Option Addr} {len cap : Nat} {x4 : DataW H × List MemPlace} (g4 : DataW.trod enc Tryz.prog w 0 (fun _ => true) true fuel ts [.slice o len cap] = some x4) (w4 : ∀ n ∈ x4.1.weights Tryz.prog ts, n ≤ reachBytes) : len * bs ≤ 140737488351232 := by
 rcases DataW.trod_slice hu g4 with ⟨e4, _⟩ | ⟨a, len2, cap2, elems, rest, n', rfl, e4, hx4, _, hle, _, hel2, hget4, hsp, _⟩
 ·simp only [List.cons.injEq, Value.slice.injEq, and_true] at e4
  obtain ⟨_, rfl, _⟩ := e4
  omega
 ·simp only [List.cons.injEq, Value.slice.injEq, and_true] at e4
  obtain ⟨_, rfl, rfl⟩ := e4
  subst hx4
  have := w4 ((elems.length + rest.length) * bs) (by simp [DataW.weights, hu, hbs])
  have h9 : (elems.length + rest.length) * bs ≤ 140737488351232 := this
  have h10 : len * bs ≤ (elems.length + rest.length) * bs := Nat.mul_le_mul_right _ (by omega)
  omega
end
end
end Go.Proofs.YtigkhmppnnljiaaGreatDoor

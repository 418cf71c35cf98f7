/-
  What the proofs lean on: Mk, RBare, FewT, TrmN.
-/
import Derived.Deep.Cut
import Derived.Deep.CutRange
import Derived.Deep.DeepCutAuto
import Derived.WalkSpells
import Derived.Deep.LoopGhost
import Derived.Test.YtigkhmppnnljiaaGreatDoorLsoA12
import Derived.Test.YtigkhmppnnljiaaGreatDoorLsoA13
import Derived.Test.YtigkhmppnnljiaaGreatDoorLsoA17
set_option maxRecDepth 100000
set_option maxHeartbeats 16000000
namespace Go.Proofs.YtigkhmppnnljiaaGreatDoor
section
namespace Trm
def sortB (op : Int) : Bool := [0, 1, 3, 5, 6, 8, 9, 10, 11, 12, 13, 15, 16, 17, 18, 19, 20, 21, 22].contains op
def countsB (op : Int) (nv nt : Nat) : Bool :=
 if op = 8 ∨ op = 9 then decide (nt = nv + 1)
 else decide (nv = 0) && (if op = 0 ∨ op = 1 ∨ op = 11 ∨ op = 13 ∨ op = 20 ∨ op = 21 then decide (nt = 0)
  else if op = 12 ∨ op = 15 ∨ op = 16 then decide (nt = 1)
  else if op = 17 ∨ op = 18 then decide (nt = 2)
  else if op = 3 then decide (nt = 3)
  else if op = 5 ∨ op = 6 ∨ op = 22 then decide (1 ≤ nt)
  else true)
def numberB (nc nk : Int) (fr : Bool) (sc : Int → Bool) (op n : Int) : Bool :=
 if op = 0 then decide (0 ≤ n) && decide (n < nc)
 else if op = 1 then sc n
 else if op = 10 ∨ op = 11 then decide (0 ≤ n) && decide (n < 31)
 else if op = 19 ∨ op = 21 ∨ op = 22 then decide (0 ≤ n) && decide (n < nk)
 else if op = 20 then decide (0 ≤ n) && fr
 else decide (n = 0)
def addV (sc : Int → Bool) (v : List Int) : Int → Bool := fun x => sc x || v.contains x
mutual
def wf (nc nk : Int) (fr : Bool) : Trm → (Int → Bool) → Bool
 | mk op n v t, sc => sortB op && (countsB op v.length t.length && (numberB nc nk fr sc op n && wfL nc nk fr op v t sc))
def wfL (nc nk : Int) (fr : Bool) : Int → List Int → List Trm → (Int → Bool) → Bool
 | _, _, [], _ => true
 | _, v, [x], sc => wf nc nk fr x (addV sc v)
 | op, v, x :: y :: l, sc => (if op = 9 then decide (x.op = 19) && wf nc nk fr x (addV sc v) else wf nc nk fr x sc) && wfL nc nk fr op v (y :: l) sc
end
mutual
def bnd : Trm → List Int
 | mk _ _ v t => v ++ bndL t
def bndL : List Trm → List Int
 | [] => []
 | x :: l => bnd x ++ bndL l
end
def newB (S : Int → Bool) : List Int → Bool
 | [] => true
 | x :: l => (decide (0 ≤ x) && (decide (x ≤ 1000000) && !S x)) && newB (addV S [x]) l
end Trm
structure MSt where
 code : List Ins
 regs : Int
 vars : List (Int × Int)
namespace MSt
def put (s : MSt) (x : Ins) : MSt := { s with code := s.code ++ [x] }
def fresh (s : MSt) : MSt := { s with regs := s.regs + 1 }
def setA (s : MSt) (k : Nat) (a : Int) : MSt := { s with code := s.code.modify k fun x => { x with a := a } }
def setB (s : MSt) (k : Nat) (b : Int) : MSt := { s with code := s.code.modify k fun x => { x with b := b } }
def len (s : MSt) : Int := s.code.length
def bind (s : MSt) (v r : List Int) : MSt := { s with vars := s.vars ++ v.zip r }
end MSt
namespace Mk
def lkF : List (Int × Int) → Int → Int
 | [], _ => 0
 | p :: l, v => if p.1 = v then p.2 else lkF l v
def lkL : List (Int × Int) → Int → Int
 | [], _ => 0
 | p :: l, v => if l.any (fun q => q.1 == v) then lkL l v else if p.1 = v then p.2 else 0
def strict (op n d : Int) (l : List Int) (s : MSt) : MSt :=
 if op = 0 then s.put ⟨0, d, n, 0, []⟩
 else if op = 11 then s.put ⟨2, d, n, 0, []⟩
 else if op = 13 then s.put ⟨3, d, 0, 0, []⟩
 else if op = 21 then s.put ⟨5, d, n, 0, []⟩
 else if op = 20 then s.put ⟨6, d, n, 0, []⟩
 else if op = 5 then s.put ⟨17, d, l.headD 0, 0, l.tail⟩
 else if op = 22 then s.put ⟨18, d, n, l.headD 0, l.tail⟩
 else if op = 10 then s.put ⟨9, d, n, 0, l⟩
 else if op = 19 then s.put ⟨7, d, n, 0, l⟩
 else if op = 12 then s.put ⟨14, d, l.headD 0, 0, []⟩
 else if op = 15 then s.put ⟨10, d, l.headD 0, 0, []⟩
 else if op = 16 then s.put ⟨11, d, l.headD 0, 0, []⟩
 else if op = 17 then (s.put ⟨12, 0, l.headD 0, l.tail.headD 0, []⟩).put ⟨4, d, 0, 0, []⟩
 else if op = 18 then (s.put ⟨13, 0, l.headD 0, l.tail.headD 0, []⟩).put ⟨4, d, 0, 0, []⟩
 else s
def ended (op n : Int) (l : List Int) (s : MSt) : MSt :=
 if op = 5 then s.put ⟨19, 0, l.headD 0, 0, l.tail⟩
 else if op = 22 then s.put ⟨20, 0, n, l.headD 0, l.tail⟩
 else s.put ⟨21, 0, n, 0, l⟩
def endsB (op n : Int) : Bool := decide (op = 5) || (decide (op = 22) || (decide (op = 10) && decide (29 ≤ n)))
def hadW (lk : List (Int × Int) → Int → Int) (op n : Int) (f : Int → Bool → MSt → MSt) (s : MSt) : Int × MSt :=
 if op = 1 then (lk s.vars n, s) else (s.regs, f s.regs false s.fresh)
def fix1 : List Int → List Trm → MSt → MSt
 | v :: vs, x :: l, s => fix1 vs l ((s.fresh.bind [v] [s.regs]).put ⟨7, s.regs, x.n, 0, []⟩)
 | _, _, s => s
def thens (f g : Int → Bool → MSt → MSt) (c d : Int) (e : Bool) (s : MSt) : MSt :=
 let s1 := s.put ⟨16, 0, c, 0, []⟩
 let s2 := f d e s1
 let s3 := if e then s2 else s2.put ⟨15, 0, 0, 0, []⟩
 let s4 := s3.setB s.code.length s3.len
 let s5 := g d e s4
 if e then s5 else s5.setA s2.code.length s5.len
mutual
def into (lk : List (Int × Int) → Int → Int) : Trm → Int → Bool → MSt → MSt
 | .mk op n v t, d, e, s =>
  if op = 3 then choice lk t d e s
  else if op = 6 then seqs lk t d e s
  else if op = 8 then lets lk t v [] d e s
  else if op = 9 then fixs lk t v d e (fix1 v t s)
  else if e then
   if endsB op n then let p := allT lk t s; ended op n p.1 p.2
   else if op = 1 then s.put ⟨22, 0, lk s.vars n, 0, []⟩
   else let p := allT lk t s.fresh; (strict op n s.regs p.1 p.2).put ⟨22, 0, s.regs, 0, []⟩
  else if op = 1 then s.put ⟨1, d, lk s.vars n, 0, []⟩
  else let p := allT lk t s; strict op n d p.1 p.2
def choice (lk : List (Int × Int) → Int → Int) : List Trm → Int → Bool → MSt → MSt
 | [a, b, c], d, e, s => let p := hadW lk a.op a.n (into lk a) s; thens (into lk b) (into lk c) p.1 d e p.2
 | _, _, _, s => s
def allT (lk : List (Int × Int) → Int → Int) : List Trm → MSt → List Int × MSt
 | [], s => ([], s)
 | x :: l, s => let p := hadW lk x.op x.n (into lk x) s; let q := allT lk l p.2; (p.1 :: q.1, q.2)
def seqs (lk : List (Int × Int) → Int → Int) : List Trm → Int → Bool → MSt → MSt
 | [], _, _, s => s
 | [x], d, e, s => into lk x d e s
 | x :: y :: l, d, e, s => let p := hadW lk x.op x.n (into lk x) s; seqs lk (y :: l) d e p.2
def lets (lk : List (Int × Int) → Int → Int) : List Trm → List Int → List Int → Int → Bool → MSt → MSt
 | [], _, _, _, _, s => s
 | [x], v, rs, d, e, s => into lk x d e (s.bind v rs)
 | x :: y :: l, v, rs, d, e, s => let p := hadW lk x.op x.n (into lk x) s; lets lk (y :: l) v (rs ++ [p.1]) d e p.2
def fixs (lk : List (Int × Int) → Int → Int) : List Trm → List Int → Int → Bool → MSt → MSt
 | [], _, _, _, s => s
 | [x], _, d, e, s => into lk x d e s
 | .mk _ _ _ t :: y :: l, v, d, e, s => let p := allT lk t s; fixs lk (y :: l) v.tail d e (p.2.put ⟨8, 0, lk p.2.vars (v.headD 0), 0, p.1⟩)
end
def had (lk : List (Int × Int) → Int → Int) (x : Trm) (s : MSt) : Int × MSt := hadW lk x.op x.n (into lk x) s
def proc (lk : List (Int × Int) → Int → Int) (c : Cod) : Proc :=
 let s := into lk c.body 0 true ⟨[], c.v.length, c.v.zip ((List.range c.v.length).map fun (i : Nat) => (i : Int))⟩
 ⟨c.v.length, c.rest, s.regs, s.code, []⟩
end Mk
namespace Mdl
def codesB (nc nk : Int) : List Cod → (Int → Bool) → Bool
 | [], _ => true
 | c :: l, B => (!c.rest || decide (0 < c.v.length)) && (Trm.newB B (c.v ++ c.body.bnd) && (c.body.wf nc nk true (Trm.addV (fun _ => false) c.v) && codesB nc nk l (Trm.addV B (c.v ++ c.body.bnd))))
def okB (m : Mdl) : Bool := (m.consts.all fun x => Dat.right x 0) && ((m.body.wf m.consts.length m.codes.length false (fun _ => false) && Trm.newB (fun _ => false) m.body.bnd) && codesB m.consts.length m.codes.length m.codes (Trm.addV (fun _ => false) m.body.bnd))
def unit (lk : List (Int × Int) → Int → Int) (m : Mdl) : Unt := ⟨m.consts, m.codes.map (Mk.proc lk) ++ [Mk.proc lk ⟨[], false, m.body⟩]⟩
end Mdl
end
section
open Go.RowKit
theorem bare_to (k d a b : Int) (l : List Int) (o : Option Addr) (len cap : Nat) (B : Nat) (w : World) (hk : -9223372036854775808 ≤ k ∧ k ≤ 9223372036854775807) (hd : -9223372036854775808 ≤ d ∧ d ≤ 9223372036854775807) (ha : -9223372036854775808 ≤ a ∧ a ≤ 9223372036854775807) (hb : -9223372036854775808 ≤ b ∧ b ≤ 9223372036854775807) (hv : SlC w B 1 IntR l (.slice o len cap)) (hB : B ≤ w.heap.size) (hmx : l.length ≤ 1000000) (h0 : 0 ≤ k) (h1 : k ≤ 22) (r : Bool) (hr : Unt.bare ⟨k, d, a, b, l⟩ = r) :
  Calls Tryz.prog 66 #[.agg #[.int .i64 k, .int .i64 d, .int .i64 a, .int .i64 b, .slice o len cap]] w fun e w' => e = .returned (.bool r) ∧ Below w.heap.size w w' := by
 obtain ⟨g, hg⟩ : ∃ g, Unt.gives ⟨k, d, a, b, l⟩ = g := ⟨_, rfl⟩
 obtain ⟨q1, hq1⟩ : ∃ q1, (decide (g < 0) && decide (d ≠ 0)) = q1 := ⟨_, rfl⟩
 obtain ⟨q2, hq2⟩ : ∃ q2, (decide (a ≠ 0) && (decide (k = 3) || decide (k = 4))) = q2 := ⟨_, rfl⟩
 obtain ⟨q3, hq3⟩ : ∃ q3, (decide (b ≠ 0) && (decide (k ≠ 12) && (decide (k ≠ 13) && (decide (k ≠ 16) && (decide (k ≠ 18) && decide (k ≠ 20)))))) = q3 := ⟨_, rfl⟩
 obtain ⟨q4, hq4⟩ : ∃ q4, (decide (l.length = 0) || ((decide (7 ≤ k) && decide (k ≤ 9)) || (decide (17 ≤ k) && decide (k ≤ 21)))) = q4 := ⟨_, rfl⟩
 have HR := Lib.hid (show (!q1 && (!q2 && (!q3 && q4))) = r from by rw [← hr, Unt.bare, hg, ← hq1, ← hq2, ← hq3, ← hq4])
 have Hq1 := Lib.hid hq1
 have Hq2 := Lib.hid hq2
 have Hq3 := Lib.hid hq3
 have Hq4 := Lib.hid hq4
 have HGV := Lib.hid hg
 obtain ⟨hlen, hcap, hmax⟩ := hv.lens
 have HL := Lib.hid hlen
 have HC := Lib.hid (fun X => named_any ⟨k, d, a, b, l⟩ _ _ _ _ _ B (w.alloc X) ⟨.slice o len cap, rfl, hk, hd, ha, hb, hv.kept ((Below.one w X).mono hB) fun _ _ _ h => h⟩ (by simp; omega) hmx h0 h1)
 clear hr hv hg hlen hq1 hq2 hq3 hq4
 go_enter Tryz.func66, Tryz.ntmps66
 go_wp2_with fail
 refine (HC.out _).mono ?_
 rintro e w1 ⟨sl, rfl, _, hb1⟩
 rw [HGV.out]
 have bx : BoxL w1 w.heap.size 34 [.int .i64 k, .int .i64 d, .int .i64 a, .int .i64 b, .slice o len cap] := (BoxL.new rfl _ _).keep hb1
 have x0 := bx.cell 0 rfl
 have x1 := bx.cell 1 rfl
 have x2 := bx.cell 2 rfl
 have x3 := bx.cell 3 rfl
 have x4 := bx.cell 4 rfl
 have HB1 := Lib.hid (one_below hb1)
 clear hb1 bx HC
 go_upto_region 2 with fail
 go_cut [16] (fun c wx => c = .bool q1 ∧ w1 = wx)
 case first => as_aux_lemma =>
  by_cases hg : g < 0
  ·have f1 : decide (g < 0) = true := decide_eq_true hg
   by_cases hd0 : d = 0
   ·subst hd0
    obtain rfl : q1 = false := by rw [← Hq1.out]; simp
    go_wp2_with fail
    go_meet
    exact ⟨rfl, rfl⟩
   ·have f2 : (d != 0) = true := by simpa using hd0
    obtain rfl : q1 = true := by rw [← Hq1.out]; simp [hg, hd0]
    go_wp2_with fail
    go_meet
    exact ⟨rfl, rfl⟩
  ·have f1 : decide (g < 0) = false := decide_eq_false hg
   obtain rfl : q1 = false := by rw [← Hq1.out]; simp [hg]
   go_wp2_with fail
   go_meet
   exact ⟨rfl, rfl⟩
 case rest =>
  obtain ⟨rfl, rfl⟩ := hcut
  cases q1 with
  | true =>
   obtain rfl : r = false := by rw [← HR.out]; simp
   go_wp2_with fail
   go_ret
   exact ⟨rfl, HB1.out⟩
  | false =>
   go_upto_region 4 with fail
   go_cut [29] (fun c wx => c = .bool q2 ∧ w1 = wx)
   case first => as_aux_lemma =>
    by_cases ha0 : a = 0
    ·subst ha0
     obtain rfl : q2 = false := by rw [← Hq2.out]; simp
     go_wp2_with fail
     go_meet
     exact ⟨rfl, rfl⟩
    have f2 : (a != 0) = true := by simpa using ha0
    by_cases k3 : k = 3
    ·subst k3
     obtain rfl : q2 = true := by rw [← Hq2.out]; simp [ha0]
     go_wp2_with fail
     go_meet
     exact ⟨rfl, rfl⟩
    have f3 : (k == 3) = false := by simpa using k3
    by_cases k4 : k = 4
    ·subst k4
     obtain rfl : q2 = true := by rw [← Hq2.out]; simp [ha0]
     go_wp2_with fail
     go_meet
     exact ⟨rfl, rfl⟩
    have f4 : (k == 4) = false := by simpa using k4
    obtain rfl : q2 = false := by rw [← Hq2.out]; simp [k3, k4]
    go_wp2_with fail
    go_meet
    exact ⟨rfl, rfl⟩
   case rest =>
    obtain ⟨rfl, rfl⟩ := hcut
    cases q2 with
    | true =>
     obtain rfl : r = false := by rw [← HR.out]; simp
     go_wp2_with fail
     go_ret
     exact ⟨rfl, HB1.out⟩
    | false =>
     go_upto_region 6 with fail
     go_cut [57] (fun c wx => c = .bool q3 ∧ w1 = wx)
     case first => as_aux_lemma =>
      by_cases hb0 : b = 0
      ·subst hb0
       obtain rfl : q3 = false := by rw [← Hq3.out]; simp
       go_wp2_with fail
       go_meet
       exact ⟨rfl, rfl⟩
      have f2 : (b != 0) = true := by simpa using hb0
      by_cases k12 : k = 12
      ·subst k12
       obtain rfl : q3 = false := by rw [← Hq3.out]; simp
       go_wp2_with fail
       go_meet
       exact ⟨rfl, rfl⟩
      have f12 : (k != 12) = true := by simpa using k12
      by_cases k13 : k = 13
      ·subst k13
       obtain rfl : q3 = false := by rw [← Hq3.out]; simp
       go_wp2_with fail
       go_meet
       exact ⟨rfl, rfl⟩
      have f13 : (k != 13) = true := by simpa using k13
      by_cases k16 : k = 16
      ·subst k16
       obtain rfl : q3 = false := by rw [← Hq3.out]; simp
       go_wp2_with fail
       go_meet
       exact ⟨rfl, rfl⟩
      have f16 : (k != 16) = true := by simpa using k16
      by_cases k18 : k = 18
      ·subst k18
       obtain rfl : q3 = false := by rw [← Hq3.out]; simp
       go_wp2_with fail
       go_meet
       exact ⟨rfl, rfl⟩
      have f18 : (k != 18) = true := by simpa using k18
      by_cases k20 : k = 20
      ·subst k20
       obtain rfl : q3 = false := by rw [← Hq3.out]; simp
       go_wp2_with fail
       go_meet
       exact ⟨rfl, rfl⟩
      have f20 : (k != 20) = true := by simpa using k20
      obtain rfl : q3 = true := by rw [← Hq3.out]; simp [hb0, k12, k13, k16, k18, k20]
      go_wp2_with fail
      go_meet
      exact ⟨rfl, rfl⟩
     case rest =>
      obtain ⟨rfl, rfl⟩ := hcut
      cases q3 with
      | true =>
       obtain rfl : r = false := by rw [← HR.out]; simp
       go_wp2_with fail
       go_ret
       exact ⟨rfl, HB1.out⟩
      | false =>
       obtain rfl : q4 = r := by rw [← HR.out]; simp
       by_cases hl0 : len = 0
       ·subst hl0
        obtain rfl : q4 = true := by rw [← Hq4.out, decide_eq_true (show l.length = 0 from HL.out.symm)]; rfl
        go_wp2_with fail
        go_ret
        exact ⟨rfl, HB1.out⟩
       have hl0' : (len == 0) = false := by simpa using hl0
       have hl1 : ¬ l.length = 0 := by rw [← HL.out]; exact hl0
       have hl2 : ((len : Int) == 0) = false := by simpa using hl0
       rw [decide_eq_false hl1] at Hq4
       clear hl1
       by_cases k7 : 7 ≤ k
       ·have f7 : decide (7 ≤ k) = true := decide_eq_true k7
        by_cases k9 : k ≤ 9
        ·have f9 : decide (k ≤ 9) = true := decide_eq_true k9
         obtain rfl : q4 = true := by rw [← Hq4.out]; simp [k7, k9]
         go_wp2_with fail
         go_ret
         exact ⟨rfl, HB1.out⟩
        have f9 : decide (k ≤ 9) = false := decide_eq_false k9
        by_cases k17 : 17 ≤ k
        ·have f17 : decide (17 ≤ k) = true := decide_eq_true k17
         by_cases k21 : k ≤ 21
         ·have f21 : decide (k ≤ 21) = true := decide_eq_true k21
          obtain rfl : q4 = true := by rw [← Hq4.out]; simp [k17, k21]
          go_wp2_with fail
          go_ret
          exact ⟨rfl, HB1.out⟩
         ·have f21 : decide (k ≤ 21) = false := decide_eq_false k21
          obtain rfl : q4 = false := by rw [← Hq4.out]; simp [k9, k21]
          go_wp2_with fail
          go_ret
          exact ⟨rfl, HB1.out⟩
        ·have f17 : decide (17 ≤ k) = false := decide_eq_false k17
         obtain rfl : q4 = false := by rw [← Hq4.out]; simp [k9, k17]
         go_wp2_with fail
         go_ret
         exact ⟨rfl, HB1.out⟩
       ·have f7 : decide (7 ≤ k) = false := decide_eq_false k7
        have k17 : ¬ 17 ≤ k := by omega
        have f17 : decide (17 ≤ k) = false := decide_eq_false k17
        obtain rfl : q4 = false := by rw [← Hq4.out]; simp [k7, k17]
        go_wp2_with fail
        go_ret
        exact ⟨rfl, HB1.out⟩
end
section
open Go Go.RowKit
namespace Trm
mutual
def few : Trm → Int → Int
 | mk _ _ _ t, left => fewL t (left - 1)
def fewL : List Trm → Int → Int
 | [], c => c
 | x :: l, c => if 0 ≤ c then fewL l (few x c) else c
end
theorem fewL_neg (l : List Trm) {c : Int} (hc : ¬ 0 ≤ c) : fewL l c = c := by
 cases l with
 | nil => rfl
 | cons x l => rw [fewL, if_neg hc]
theorem all_ge : ∀ x : Trm, 1 ≤ x.all
 | mk _ _ _ t => by rw [all]; omega
theorem few_eq (x : Trm) : ∀ c : Int, 0 ≤ c → few x c = if (x.all : Int) ≤ c then c - x.all else -1 := by
 have hL : ∀ l : List Trm, (∀ x ∈ l, ∀ c : Int, 0 ≤ c → few x c = if (x.all : Int) ≤ c then c - x.all else -1) → ∀ c : Int, -1 ≤ c → fewL l c = if (allL l : Int) ≤ c then c - allL l else -1 := by
  intro l
  induction l with
  | nil =>
   intro _ c hc
   rw [fewL, allL]
   split
   ·simp
   ·omega
  | cons x l ih =>
   intro hx c hc
   have hp := x.all_ge
   by_cases h0 : 0 ≤ c
   ·rw [fewL, if_pos h0, hx x (by simp) c h0, ih (fun y hy => hx y (by simp [hy])) _ (by split <;> omega), allL]
    split <;> split <;> (try split) <;> omega
   ·rw [fewL, if_neg h0, allL, if_neg (by omega)]
    omega
 induction x using Trm.ind with
 | _ o n v t ih =>
  intro c hc
  rw [few, hL t ih _ (by omega), all]
  split <;> split <;> omega
theorem few_range (x : Trm) {c : Int} (hc : 0 ≤ c) : -1 ≤ few x c ∧ few x c ≤ c := by
 rw [few_eq x c hc]
 have := x.all_ge
 split <;> omega
theorem fewL_step {l : List Trm} {i : Nat} {x : Trm} {c : Int} (h : l[i]? = some x) (hc : 0 ≤ c) : fewL (l.drop i) c = fewL (l.drop (i + 1)) (few x c) := by
 have e : l.drop i = x :: l.drop (i + 1) := by
  obtain ⟨hi, he⟩ := List.getElem?_eq_some_iff.1 h
  rw [← he]; exact List.drop_eq_getElem_cons hi
 rw [e, fewL, if_pos hc]
theorem few_ge0 (x : Trm) {c : Int} (hc : 0 ≤ c) : decide (0 ≤ few x c) = decide ((x.all : Int) ≤ c) := by
 rw [few_eq x c hc, decide_eq_decide]
 split <;> omega
end Trm
theorem trm_boxed {w : World} {B : Nat} {o n : Int} {v : List Int} {t : List Trm} {c0 c1 c2 c3 : Value} (h : TrmR w B (.mk o n v t) [c0, c1, c2, c3]) : ∃ vs q len cap, c0 = .int .i64 o ∧ c1 = .int .i64 n ∧ c2 = vs ∧ c3 = .slice q len cap ∧ SlC w B 4 (TrmR w B) t (.slice q len cap) ∧ SlC w B 1 IntR v vs ∧ len = t.length ∧ len ≤ 9223372036854775807 := by
 obtain ⟨vs, ts, he, _, _, h3, h4⟩ := trmR_iff.1 h
 simp only [List.cons.injEq, and_true] at he
 obtain ⟨rfl, rfl, rfl, rfl⟩ := he
 obtain ⟨q, len, cap, rfl⟩ := h4.form
 have := h4.lens
 exact ⟨_, _, _, _, rfl, rfl, rfl, rfl, h4, h3, this.1, by omega⟩
theorem trm_form {W : World} {B : Nat} {x : Trm} {c0 c1 c2 c3 : Value} (h : TrmR W B x [c0, c1, c2, c3]) : ∃ q r u q' r' u', c0 = .int .i64 x.op ∧ c1 = .int .i64 x.n ∧ c2 = .slice q r u ∧ c3 = .slice q' r' u' := by
 obtain ⟨o, n, v, t⟩ := x
 obtain ⟨vs, ts, he, _, _, h3, h4⟩ := trmR_iff.1 h
 simp only [List.cons.injEq, and_true] at he
 obtain ⟨rfl, rfl, rfl, rfl⟩ := he
 obtain ⟨q, r, u, rfl⟩ := h3.form
 obtain ⟨q', r', u', rfl⟩ := h4.form
 exact ⟨_, _, _, _, _, _, rfl, rfl, rfl, rfl⟩
theorem tfew_any (x : Trm) : ∀ (c0 c1 c2 c3 : Value) (left : Int) (B : Nat) (w : World), TrmR w B x [c0, c1, c2, c3] → B ≤ w.heap.size → 0 ≤ left → left ≤ 100000 →
  Calls Tryz.prog 49 #[.agg #[c0, c1, c2, c3], .int .i64 left] w fun e w' => e = .returned (.int .i64 (Trm.few x left)) ∧ Below w.heap.size w w' := by
 induction x using Trm.ind with
 | _ o n v t ih =>
  intro c0 c1 c2 c3 left B w hv hB h0 h1
  obtain ⟨vs, q, len, cap, rfl, rfl, rfl, rfl, hs, _, hlen, hmx⟩ := trm_boxed hv
  obtain ⟨W1, hW1⟩ : ∃ W1, w.alloc (.cells #[.int .i64 o, .int .i64 n, c2, .slice q len cap] 41) = W1 := ⟨_, rfl⟩
  have HB1 := Lib.hid (show Below w.heap.size w W1 from by rw [← hW1]; exact Below.one w _)
  have HX1 := Lib.hid (show BoxL W1 w.heap.size 41 [.int .i64 o, .int .i64 n, c2, .slice q len cap] from by rw [← hW1]; exact BoxL.new rfl _ _)
  have IH := Lib.hid ih
  have HS := Lib.hid hs
  have HL := Lib.hid hlen
  have HW := Lib.hid hW1
  clear ih hv hs hlen hW1
  go_enter Tryz.func49, Tryz.ntmps49
  go_upto_region 1 with fail
  rw [HW.out]
  go_wp2
  go_loopg [1, 5] len (fun g a i wr => ∃ (cur : Int) (j : Nat), g = len - j ∧ a = .int .i64 cur ∧ i = .int .i64 j ∧ j ≤ len ∧ -1 ≤ cur ∧ cur ≤ 100000 ∧ Hid (Trm.fewL (t.drop j) cur = Trm.fewL t (left - 1)) ∧ Hid (Below W1.heap.size W1 wr))
  case atStart => exact ⟨left - 1, 0, rfl, rfl, rfl, by omega, by omega, by omega, Lib.hid rfl, Lib.hid (Below.refl _ _)⟩
  case round =>
   obtain ⟨cur, j, rfl, rfl, rfl, hj, hc1, hc2, HF, HBR⟩ := hrel
   have HXR := Lib.hid (HX1.out.keep HBR.out)
   have HBW := Lib.hid (HB1.out.trans (HBR.out.mono HB1.out.size))
   have b3 := HXR.out.cell 3 rfl
   have bl := HXR.out.lt
   by_cases hjl : j < len
   ·by_cases hcur : 0 ≤ cur
    ·obtain ⟨x, hx⟩ : ∃ x, t[j]? = some x := ⟨_, List.getElem?_eq_getElem (by rw [← HL.out]; exact hjl)⟩
     obtain ⟨b, off, cs, ho, _, hcl, hcell, hir⟩ := SlC.at HS.out (HBW.out.mono hB) hx
     subst ho
     match cs, hcl with
     | [d0, d1, d2, d3], _ =>
      have e0 := hcell 0 _ rfl
      have e1 := hcell 1 _ rfl
      have e2 := hcell 2 _ rfl
      have e3 := hcell 3 _ rfl
      simp only [Nat.add_zero] at e0
      have HX := Lib.hid hx
      have hg := Trm.few_range x hcur
      have HF2 := Lib.hid ((Trm.fewL_step hx hcur).symm.trans HF.out)
      have HCC := Lib.hid (IH.out x (List.mem_of_getElem? hx) d0 d1 d2 d3 cur B wr (TrmR.kept (HBW.out.mono hB) _ _ hir) (by have := HBW.out.size; omega) hcur hc2)
      obtain ⟨y, hy⟩ : ∃ y, Trm.few x cur = y := ⟨_, rfl⟩
      rw [hy] at hg HF2 HCC
      clear hx hir hcell hy
      go_wp2_with fail
      with_reducible refine HCC.out.mono ?_
      rintro e w1 ⟨rfl, hb1⟩
      have HBN := Lib.hid (HBR.out.trans (hb1.mono HBR.out.size))
      clear hb1 HCC
      go_wp2_with fail
      go_roundg (len - (j + 1))
      case measure => omega
      case rel => exact ⟨y, j + 1, rfl, rfl, by go_num, by omega, by omega, by omega, HF2, HBN⟩
    ·have HR := Lib.hid (show Trm.fewL t (left - 1) = cur by rw [← HF.out, Trm.fewL_neg _ hcur])
     go_wp2
     go_ret
     exact ⟨ret_int (by rw [Trm.few]; exact HR.out.symm), HBW.out⟩
   ·have HR := Lib.hid (show Trm.fewL t (left - 1) = cur by
     rw [← HF.out, List.drop_eq_nil_of_le (by rw [← HL.out]; omega)]; rfl)
    go_wp2
    go_ret
    exact ⟨ret_int (by rw [Trm.few]; exact HR.out.symm), HBW.out⟩
theorem tFew_any (x : Trm) (c0 c1 c2 c3 : Value) (left : Int) (B : Nat) (w : World) (hv : TrmR w B x [c0, c1, c2, c3]) (hB : B ≤ w.heap.size) (h0 : 0 ≤ left) (h1 : left ≤ 100000) :
  Calls Tryz.prog 22 #[.agg #[c0, c1, c2, c3], .int .i64 left] w fun e w' => e = .returned (.bool (decide ((x.all : Int) ≤ left))) ∧ Below w.heap.size w w' := by
 have HD := Lib.hid (Trm.few_ge0 x h0)
 have HCC := Lib.hid (tfew_any x c0 c1 c2 c3 left B (w.alloc (.cells #[c0, c1, c2, c3] 41)) (TrmR.kept ((Below.one w _).mono hB) _ _ hv) (by simp; omega) h0 h1)
 obtain ⟨o, n, v, t⟩ := x
 obtain ⟨vs, q, len, cap, rfl, rfl, rfl, rfl, hs, _, hlen, hmx⟩ := trm_boxed hv
 obtain ⟨oo, ll, cc, rfl⟩ : ∃ oo ll cc, c2 = .slice oo ll cc := by
  obtain ⟨vs', ts, he, _, _, h3, _⟩ := trmR_iff.1 hv
  simp only [List.cons.injEq, and_true] at he
  obtain ⟨_, _, rfl, _⟩ := he
  exact h3.form
 obtain ⟨y, hy⟩ : ∃ y, Trm.few (.mk o n v t) left = y := ⟨_, rfl⟩
 rw [hy] at HD HCC
 clear hv hs hlen hmx hy
 go_enter Tryz.func22, Tryz.ntmps22
 go_wp2_with fail
 with_reducible refine HCC.out.mono ?_
 rintro e' w1 ⟨rfl, hb1⟩
 go_wp2_with fail
 go_ret
 exact ⟨by rw [← HD.out]; rfl, (Below.one w _).trans (hb1.mono (by simp))⟩
end
section
open Go Go.RowKit Go.Deep Go.ChangeShapes Go.WideShapes Go.ChangeAt
mutual
def Trm.short : Trm → Prop
 | .mk _ _ v t => v.length * 8 ≤ 140737488351232 ∧ Trm.shortL t
def Trm.shortL : List Trm → Prop
 | [] => True
 | x :: l => Trm.short x ∧ Trm.shortL l
end
def Cod.short (c : Cod) : Prop := c.v.length * 8 ≤ 140737488351232 ∧ c.body.short
def Mdl.short (m : Mdl) : Prop := (∀ c ∈ m.codes, c.short) ∧ m.body.short
theorem SlC.both {α : Type} {w : World} {B size : Nat} {R : α → List Value → Prop} {Q : α → Prop} {l : List α} {v : Value} (h : SlC w B size (fun x cs => R x cs ∧ Q x) l v) : SlC w B size R l v ∧ ∀ x ∈ l, Q x := by
 obtain ⟨o, len, cap, rfl, h1, h2, h3, h4⟩ := h
 cases o with
 | none => exact ⟨⟨none, len, cap, rfl, h1, h2, h3, h4⟩, fun x hx => by rw [h4.1] at hx; cases hx⟩
 | some a =>
  refine ⟨⟨some a, len, cap, rfl, h1, h2, h3, h4.1, fun i x hx => ?_⟩, fun x hx => ?_⟩
  ·obtain ⟨cs, g1, g2, g3⟩ := h4.2 i x hx
   exact ⟨cs, g1, g2, g3.1⟩
  ·obtain ⟨i, hi⟩ := List.getElem?_of_mem hx
   obtain ⟨cs, g1, g2, g3⟩ := h4.2 i x hi
   exact g3.2
section
variable {H : Type} {enc : TypeId × Value → H}
theorem len_of_trod {w : World} {ts te : TypeId} {bs : Nat} (hu : Tryz.prog.underlying ts = some (.slice te)) (hbs : Tryz.prog.bytesOf te = bs) {fuel : Nat} {o : Option Addr} {len cap : Nat} {x4 : DataW H × List MemPlace} (g4 : DataW.trod enc Tryz.prog w 0 (fun _ => true) true fuel ts [.slice o len cap] = some x4) (w4 : ∀ n ∈ x4.1.weights Tryz.prog ts, n ≤ reachBytes) : len * bs ≤ 140737488351232 := by
 rcases DataW.trod_slice hu g4 with ⟨e4, _⟩ | ⟨a, len2, cap2, elems, rest, n', rfl, e4, hx4, _, hle, _, hel2, hget4, hsp, _⟩
 ·simp only [List.cons.injEq, Value.slice.injEq, and_true] at e4
  obtain ⟨_, rfl, _⟩ := e4
  omega
 ·simp only [List.cons.injEq, Value.slice.injEq, and_true] at e4
  obtain ⟨_, rfl, rfl⟩ := e4
  subst hx4
  have := w4 ((elems.length + rest.length) * bs) (by simp [DataW.weights, hu, hbs])
  have h9 : (elems.length + rest.length) * bs ≤ 140737488351232 := this
  have h10 : len * bs ≤ (elems.length + rest.length) * bs := Nat.mul_le_mul_right _ (by omega)
  omega
end
end
end Go.Proofs.YtigkhmppnnljiaaGreatDoor

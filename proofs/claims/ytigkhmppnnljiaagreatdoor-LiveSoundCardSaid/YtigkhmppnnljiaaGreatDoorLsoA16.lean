/-
  What the proofs lean on: Fits3, Without.
-/
import Derived.Maps.Own
import Derived.Maps.OwnOps
import Derived.Maps.Views
import Derived.Deep.LoopGhost
import Derived.Laws.EntriesVeiled
import Derived.Deep.Cut
import Derived.Deep.CutRange
import Derived.Deep.OwnRows
import Derived.Test.YtigkhmppnnljiaaGreatDoorLsoA03
import Derived.Test.YtigkhmppnnljiaaGreatDoorLsoA07
import Derived.Test.YtigkhmppnnljiaaGreatDoorLsoA12
import Derived.Test.YtigkhmppnnljiaaGreatDoorLsoA13
set_option maxRecDepth 100000
set_option maxHeartbeats 16000000
namespace Go.Proofs.YtigkhmppnnljiaaGreatDoor
section
open Go.RowKit
theorem fits_16 (d a b : Int) (l : List Int) (o : Option Addr) (len cap : Nat) (args regs : Int) (rest : Bool) (oc oa ok op : Option Addr) (lc cc la ca lk ck lp cp : Nat) (B : Nat) (w : World) (_ha : -9223372036854775808 ≤ a ∧ a ≤ 9223372036854775807) (hv : SlC w B 1 IntR l (.slice o len cap)) (hB : B ≤ w.heap.size) (r : Bool) (hr : Unt.fits ⟨16, d, a, b, l⟩ regs lc lp lk = r) :
  Calls Tryz.prog 34 #[.agg #[.int .i64 16, .int .i64 d, .int .i64 a, .int .i64 b, .slice o len cap], .agg #[.int .i64 args, .bool rest, .int .i64 regs, .slice oc lc cc, .slice oa la ca], .agg #[.slice ok lk ck, .slice op lp cp]] w fun e w' => e = .returned (.bool r) ∧ Below w.heap.size w w' := by
 have e : Unt.fits ⟨16, d, a, b, l⟩ regs lc lp lk = (Unt.regB false d regs && (Unt.regB true a regs && (decide (l.length ≤ 0) && (l.all (Unt.below · regs) && (Unt.below b lc))))) := by
  rw [Unt.fits, show Unt.isOp 16 = true by decide, show Unt.pD 16 = false by decide, show Unt.pN 16 = false by decide, show Unt.pA 16 = true by decide, show Unt.pM 16 = true by decide, show Unt.pL 16 = false by decide, show Unt.tailOk ⟨16, d, a, b, l⟩ lc lp lk = Unt.below b lc by simp [Unt.tailOk]]
  simp only [Bool.true_and, Bool.true_or, Bool.false_or]
 rw [e] at hr
 clear e
 obtain ⟨rD, hrD⟩ : ∃ rD, (Unt.regB false d regs) = rD := ⟨_, rfl⟩
 obtain ⟨rA, hrA⟩ : ∃ rA, (Unt.regB true a regs) = rA := ⟨_, rfl⟩
 obtain ⟨rL, hrL⟩ : ∃ rL, (decide (l.length ≤ 0)) = rL := ⟨_, rfl⟩
 obtain ⟨rI, hrI⟩ : ∃ rI, (l.all (Unt.below · regs)) = rI := ⟨_, rfl⟩
 obtain ⟨rT, hrT⟩ : ∃ rT, (Unt.below b lc) = rT := ⟨_, rfl⟩
 rw [hrD, hrA, hrL, hrI, hrT] at hr
 have HrD := Lib.hid hrD
 have HrA := Lib.hid hrA
 have HrL := Lib.hid hrL
 have HrI := Lib.hid hrI
 have HrT := Lib.hid hrT
 have HR := Lib.hid hr
 have HV := Lib.hid hv
 obtain ⟨hlen, hcap, hmax⟩ := hv.lens
 have HL := Lib.hid hlen
 clear hr hv hlen hrD hrA hrL hrI hrT
 go_enter Tryz.func34, Tryz.ntmps34
 go_wp2_with fail
 refine (parts_16 _).mono ?_
 rintro e' w1 ⟨rfl, hb1⟩
 obtain ⟨bx, bp, bu, hb⟩ := three_boxes hb1
 have HB := Lib.hid hb
 have hs1 := bu.lt
 have z0 : w.heap.size < w1.heap.size := by omega
 have z1 : w.heap.size + 1 < w1.heap.size := by omega
 have x0 := bx.cell 0 rfl
 have x1 := bx.cell 1 rfl
 have x2 := bx.cell 2 rfl
 have x3 := bx.cell 3 rfl
 have x4 := bx.cell 4 rfl
 have p0 := bp.cell 0 rfl
 have p1 := bp.cell 1 rfl
 have p2 := bp.cell 2 rfl
 have p3 := bp.cell 3 rfl
 have u0 := bu.cell 0 rfl
 have u1 := bu.cell 1 rfl
 have HBP := Lib.hid bp
 have HKE := Lib.hid (Below.one w1 (.cells #[.bool false, .bool true, .bool false, .bool false, .bool false, .bool true] 89))
 have hp2 : ∀ X, (w1.alloc X).cell? ⟨w.heap.size + 1, 2, none⟩ = some (.int .i64 regs) := fun X => keepC (Below.one w1 X) p2
 have HP2 := Lib.hid hp2
 clear hb1 bx bp bu hb hp2
 go_wp2_with fail
 refine (reg_to false d regs rD HrD.out (w.heap.size + 1) _ (HP2.out _)).mono ?_
 rintro e' w' ⟨rfl, rfl⟩
 cases rD with
 | false =>
  obtain rfl : false = r := HR.out
  go_wp2_with fail
  go_ret
  exact ⟨rfl, HB.out.alloc (by omega) _⟩
 | true =>
  go_wp2_with fail
  refine (reg_to true a regs rA HrA.out (w.heap.size + 1) _ (HP2.out _)).mono ?_
  rintro e' w' ⟨rfl, rfl⟩
  cases rA with
  | false =>
   obtain rfl : false = r := HR.out
   go_wp2_with fail
   go_ret
   exact ⟨rfl, HB.out.alloc (by omega) _⟩
  | true =>
   cases rL with
   | false =>
    have hpos : 0 < len := by have h1 := of_decide_eq_false HrL.out; have h2 := HL.out; omega
    obtain rfl : false = r := HR.out
    go_wp2_with fail
    go_ret
    exact ⟨rfl, HB.out.alloc (by omega) _⟩
   | true =>
    have hzero : len = 0 := by have h1 := of_decide_eq_true HrL.out; have h2 := HL.out; omega
    have hz2 : ¬ 0 < len := by omega
    clear hzero
    have HC := Lib.hid (fun X => containsG_int IntR 63 #[.pointer (some ⟨w.heap.size + 1, 0, none⟩)] (fun n => !Unt.below n regs) (!rI) l (.slice o len cap) B (w1.alloc X) (HV.out.kept ((HB.out.alloc (by omega) X).mono hB) fun _ _ _ h => h) (by simp; omega) (fun _ _ => rfl) (fun n _ c0 W hR hbW => by
      obtain ⟨hc0, _, _⟩ := hR
      obtain rfl : c0 = .int .i64 n := by simpa using hc0
      exact (regN_to n regs _ rfl (w.heap.size + 1) W (keepC hbW (HP2.out X))).mono fun e w' h => ⟨h.1, by rw [h.2]; exact Below.refl _ _⟩) (by rw [← HrI.out, ← List.not_all_eq_any_not]))
    go_wp2_with fail
    refine (HC.out _).mono ?_
    rintro e' w2 ⟨rfl, hb2⟩
    have HB2 := Lib.hid (Below.next (HB.out.alloc (by omega) _) hb2)
    have hs2 := hb2.size
    have y0 := keepC hb2 (keepC HKE.out x0)
    have y2 := keepC hb2 (keepC HKE.out x2)
    have y3 := keepC hb2 (keepC HKE.out x3)
    have q3 := keepC hb2 (keepC HKE.out p3)
    clear hb2 HC x0 x1 x2 x3 x4 p0 p1 p2 p3 u0 u1
    cases rI with
    | false =>
     obtain rfl : false = r := HR.out
     go_wp2_with fail
     go_ret
     exact ⟨rfl, HB2.out⟩
    | true =>
     obtain rfl : rT = r := HR.out
     go_wp2_with fail
     refine (below_to _ _ rT HrT.out _).mono ?_
     rintro e' w' ⟨rfl, rfl⟩
     go_wp2_with fail
     go_ret
     exact ⟨rfl, HB2.out⟩
theorem fits_17 (d a b : Int) (l : List Int) (o : Option Addr) (len cap : Nat) (args regs : Int) (rest : Bool) (oc oa ok op : Option Addr) (lc cc la ca lk ck lp cp : Nat) (B : Nat) (w : World) (_ha : -9223372036854775808 ≤ a ∧ a ≤ 9223372036854775807) (hv : SlC w B 1 IntR l (.slice o len cap)) (hB : B ≤ w.heap.size) (r : Bool) (hr : Unt.fits ⟨17, d, a, b, l⟩ regs lc lp lk = r) :
  Calls Tryz.prog 34 #[.agg #[.int .i64 17, .int .i64 d, .int .i64 a, .int .i64 b, .slice o len cap], .agg #[.int .i64 args, .bool rest, .int .i64 regs, .slice oc lc cc, .slice oa la ca], .agg #[.slice ok lk ck, .slice op lp cp]] w fun e w' => e = .returned (.bool r) ∧ Below w.heap.size w w' := by
 have e : Unt.fits ⟨17, d, a, b, l⟩ regs lc lp lk = (Unt.regB true d regs && (Unt.regB true a regs && (Unt.regB false b regs && (l.all (Unt.below · regs))))) := by
  rw [Unt.fits, show Unt.isOp 17 = true by decide, show Unt.pD 17 = true by decide, show Unt.pN 17 = false by decide, show Unt.pA 17 = true by decide, show Unt.pM 17 = false by decide, show Unt.pB 17 = false by decide, show Unt.pL 17 = true by decide, show Unt.tailOk ⟨17, d, a, b, l⟩ lc lp lk = true by simp [Unt.tailOk]]
  simp only [Bool.true_and, Bool.and_true, Bool.true_or, Bool.false_or]
 rw [e] at hr
 clear e
 obtain ⟨rD, hrD⟩ : ∃ rD, (Unt.regB true d regs) = rD := ⟨_, rfl⟩
 obtain ⟨rA, hrA⟩ : ∃ rA, (Unt.regB true a regs) = rA := ⟨_, rfl⟩
 obtain ⟨rB, hrB⟩ : ∃ rB, (Unt.regB false b regs) = rB := ⟨_, rfl⟩
 obtain ⟨rI, hrI⟩ : ∃ rI, (l.all (Unt.below · regs)) = rI := ⟨_, rfl⟩
 rw [hrD, hrA, hrB, hrI] at hr
 have HrD := Lib.hid hrD
 have HrA := Lib.hid hrA
 have HrB := Lib.hid hrB
 have HrI := Lib.hid hrI
 have HR := Lib.hid hr
 have HV := Lib.hid hv
 obtain ⟨hlen, hcap, hmax⟩ := hv.lens
 have HL := Lib.hid hlen
 clear hr hv hlen hrD hrA hrB hrI
 go_enter Tryz.func34, Tryz.ntmps34
 go_wp2_with fail
 refine (parts_17 _).mono ?_
 rintro e' w1 ⟨rfl, hb1⟩
 obtain ⟨bx, bp, bu, hb⟩ := three_boxes hb1
 have HB := Lib.hid hb
 have hs1 := bu.lt
 have z0 : w.heap.size < w1.heap.size := by omega
 have z1 : w.heap.size + 1 < w1.heap.size := by omega
 have x0 := bx.cell 0 rfl
 have x1 := bx.cell 1 rfl
 have x2 := bx.cell 2 rfl
 have x3 := bx.cell 3 rfl
 have x4 := bx.cell 4 rfl
 have p0 := bp.cell 0 rfl
 have p1 := bp.cell 1 rfl
 have p2 := bp.cell 2 rfl
 have p3 := bp.cell 3 rfl
 have u0 := bu.cell 0 rfl
 have u1 := bu.cell 1 rfl
 have HBP := Lib.hid bp
 have HKE := Lib.hid (Below.one w1 (.cells #[.bool true, .bool true, .bool false, .bool true, .bool false, .bool false] 89))
 have hp2 : ∀ X, (w1.alloc X).cell? ⟨w.heap.size + 1, 2, none⟩ = some (.int .i64 regs) := fun X => keepC (Below.one w1 X) p2
 have HP2 := Lib.hid hp2
 clear hb1 bx bp bu hb hp2
 go_wp2_with fail
 refine (reg_to true d regs rD HrD.out (w.heap.size + 1) _ (HP2.out _)).mono ?_
 rintro e' w' ⟨rfl, rfl⟩
 cases rD with
 | false =>
  obtain rfl : false = r := HR.out
  go_wp2_with fail
  go_ret
  exact ⟨rfl, HB.out.alloc (by omega) _⟩
 | true =>
  go_wp2_with fail
  refine (reg_to true a regs rA HrA.out (w.heap.size + 1) _ (HP2.out _)).mono ?_
  rintro e' w' ⟨rfl, rfl⟩
  cases rA with
  | false =>
   obtain rfl : false = r := HR.out
   go_wp2_with fail
   go_ret
   exact ⟨rfl, HB.out.alloc (by omega) _⟩
  | true =>
   go_wp2_with fail
   refine (reg_to false b regs rB HrB.out (w.heap.size + 1) _ (HP2.out _)).mono ?_
   rintro e' w' ⟨rfl, rfl⟩
   cases rB with
   | false =>
    obtain rfl : false = r := HR.out
    go_wp2_with fail
    go_ret
    exact ⟨rfl, HB.out.alloc (by omega) _⟩
   | true =>
    have HC := Lib.hid (fun X => containsG_int IntR 63 #[.pointer (some ⟨w.heap.size + 1, 0, none⟩)] (fun n => !Unt.below n regs) (!rI) l (.slice o len cap) B (w1.alloc X) (HV.out.kept ((HB.out.alloc (by omega) X).mono hB) fun _ _ _ h => h) (by simp; omega) (fun _ _ => rfl) (fun n _ c0 W hR hbW => by
      obtain ⟨hc0, _, _⟩ := hR
      obtain rfl : c0 = .int .i64 n := by simpa using hc0
      exact (regN_to n regs _ rfl (w.heap.size + 1) W (keepC hbW (HP2.out X))).mono fun e w' h => ⟨h.1, by rw [h.2]; exact Below.refl _ _⟩) (by rw [← HrI.out, ← List.not_all_eq_any_not]))
    go_wp2_with fail
    refine (HC.out _).mono ?_
    rintro e' w2 ⟨rfl, hb2⟩
    have HB2 := Lib.hid (Below.next (HB.out.alloc (by omega) _) hb2)
    have hs2 := hb2.size
    have y0 := keepC hb2 (keepC HKE.out x0)
    have y2 := keepC hb2 (keepC HKE.out x2)
    clear hb2 HC x0 x1 x2 x3 x4 p0 p1 p2 p3 u0 u1
    cases rI with
    | false =>
     obtain rfl : false = r := HR.out
     go_wp2_with fail
     go_ret
     exact ⟨rfl, HB2.out⟩
    | true =>
     obtain rfl : true = r := HR.out
     go_wp2_with fail
     go_ret
     exact ⟨rfl, HB2.out⟩
theorem fits_18 (d a b : Int) (l : List Int) (o : Option Addr) (len cap : Nat) (args regs : Int) (rest : Bool) (oc oa ok op : Option Addr) (lc cc la ca lk ck lp cp : Nat) (B : Nat) (w : World) (_ha : -9223372036854775808 ≤ a ∧ a ≤ 9223372036854775807) (hv : SlC w B 1 IntR l (.slice o len cap)) (hB : B ≤ w.heap.size) (r : Bool) (hr : Unt.fits ⟨18, d, a, b, l⟩ regs lc lp lk = r) :
  Calls Tryz.prog 34 #[.agg #[.int .i64 18, .int .i64 d, .int .i64 a, .int .i64 b, .slice o len cap], .agg #[.int .i64 args, .bool rest, .int .i64 regs, .slice oc lc cc, .slice oa la ca], .agg #[.slice ok lk ck, .slice op lp cp]] w fun e w' => e = .returned (.bool r) ∧ Below w.heap.size w w' := by
 have e : Unt.fits ⟨18, d, a, b, l⟩ regs lc lp lk = (Unt.regB true d regs && (Unt.regB true b regs && (l.all (Unt.below · regs) && (Unt.below a lp)))) := by
  rw [Unt.fits, show Unt.isOp 18 = true by decide, show Unt.pD 18 = true by decide, show Unt.pN 18 = true by decide, show Unt.pM 18 = false by decide, show Unt.pB 18 = true by decide, show Unt.pL 18 = true by decide, show Unt.tailOk ⟨18, d, a, b, l⟩ lc lp lk = Unt.below a lp by simp [Unt.tailOk]]
  simp only [Bool.true_and, Bool.true_or, Bool.false_or]
 rw [e] at hr
 clear e
 obtain ⟨rD, hrD⟩ : ∃ rD, (Unt.regB true d regs) = rD := ⟨_, rfl⟩
 obtain ⟨rB, hrB⟩ : ∃ rB, (Unt.regB true b regs) = rB := ⟨_, rfl⟩
 obtain ⟨rI, hrI⟩ : ∃ rI, (l.all (Unt.below · regs)) = rI := ⟨_, rfl⟩
 obtain ⟨rT, hrT⟩ : ∃ rT, (Unt.below a lp) = rT := ⟨_, rfl⟩
 rw [hrD, hrB, hrI, hrT] at hr
 have HrD := Lib.hid hrD
 have HrB := Lib.hid hrB
 have HrI := Lib.hid hrI
 have HrT := Lib.hid hrT
 have HR := Lib.hid hr
 have HV := Lib.hid hv
 obtain ⟨hlen, hcap, hmax⟩ := hv.lens
 have HL := Lib.hid hlen
 clear hr hv hlen hrD hrB hrI hrT
 go_enter Tryz.func34, Tryz.ntmps34
 go_wp2_with fail
 refine (parts_18 _).mono ?_
 rintro e' w1 ⟨rfl, hb1⟩
 obtain ⟨bx, bp, bu, hb⟩ := three_boxes hb1
 have HB := Lib.hid hb
 have hs1 := bu.lt
 have z0 : w.heap.size < w1.heap.size := by omega
 have z1 : w.heap.size + 1 < w1.heap.size := by omega
 have x0 := bx.cell 0 rfl
 have x1 := bx.cell 1 rfl
 have x2 := bx.cell 2 rfl
 have x3 := bx.cell 3 rfl
 have x4 := bx.cell 4 rfl
 have p0 := bp.cell 0 rfl
 have p1 := bp.cell 1 rfl
 have p2 := bp.cell 2 rfl
 have p3 := bp.cell 3 rfl
 have u0 := bu.cell 0 rfl
 have u1 := bu.cell 1 rfl
 have HBP := Lib.hid bp
 have HKE := Lib.hid (Below.one w1 (.cells #[.bool true, .bool false, .bool true, .bool true, .bool true, .bool false] 89))
 have hp2 : ∀ X, (w1.alloc X).cell? ⟨w.heap.size + 1, 2, none⟩ = some (.int .i64 regs) := fun X => keepC (Below.one w1 X) p2
 have HP2 := Lib.hid hp2
 clear hb1 bx bp bu hb hp2
 go_wp2_with fail
 refine (reg_to true d regs rD HrD.out (w.heap.size + 1) _ (HP2.out _)).mono ?_
 rintro e' w' ⟨rfl, rfl⟩
 cases rD with
 | false =>
  obtain rfl : false = r := HR.out
  go_wp2_with fail
  go_ret
  exact ⟨rfl, HB.out.alloc (by omega) _⟩
 | true =>
  go_wp2_with fail
  refine (reg_to true b regs rB HrB.out (w.heap.size + 1) _ (HP2.out _)).mono ?_
  rintro e' w' ⟨rfl, rfl⟩
  cases rB with
  | false =>
   obtain rfl : false = r := HR.out
   go_wp2_with fail
   go_ret
   exact ⟨rfl, HB.out.alloc (by omega) _⟩
  | true =>
   have HC := Lib.hid (fun X => containsG_int IntR 63 #[.pointer (some ⟨w.heap.size + 1, 0, none⟩)] (fun n => !Unt.below n regs) (!rI) l (.slice o len cap) B (w1.alloc X) (HV.out.kept ((HB.out.alloc (by omega) X).mono hB) fun _ _ _ h => h) (by simp; omega) (fun _ _ => rfl) (fun n _ c0 W hR hbW => by
     obtain ⟨hc0, _, _⟩ := hR
     obtain rfl : c0 = .int .i64 n := by simpa using hc0
     exact (regN_to n regs _ rfl (w.heap.size + 1) W (keepC hbW (HP2.out X))).mono fun e w' h => ⟨h.1, by rw [h.2]; exact Below.refl _ _⟩) (by rw [← HrI.out, ← List.not_all_eq_any_not]))
   go_wp2_with fail
   refine (HC.out _).mono ?_
   rintro e' w2 ⟨rfl, hb2⟩
   have HB2 := Lib.hid (Below.next (HB.out.alloc (by omega) _) hb2)
   have hs2 := hb2.size
   have y0 := keepC hb2 (keepC HKE.out x0)
   have y2 := keepC hb2 (keepC HKE.out x2)
   have v1 := keepC hb2 (keepC HKE.out u1)
   clear hb2 HC x0 x1 x2 x3 x4 p0 p1 p2 p3 u0 u1
   cases rI with
   | false =>
    obtain rfl : false = r := HR.out
    go_wp2_with fail
    go_ret
    exact ⟨rfl, HB2.out⟩
   | true =>
    obtain rfl : rT = r := HR.out
    go_wp2_with fail
    refine (below_to _ _ rT HrT.out _).mono ?_
    rintro e' w' ⟨rfl, rfl⟩
    go_wp2_with fail
    go_ret
    exact ⟨rfl, HB2.out⟩
theorem fits_19 (d a b : Int) (l : List Int) (o : Option Addr) (len cap : Nat) (args regs : Int) (rest : Bool) (oc oa ok op : Option Addr) (lc cc la ca lk ck lp cp : Nat) (B : Nat) (w : World) (_ha : -9223372036854775808 ≤ a ∧ a ≤ 9223372036854775807) (hv : SlC w B 1 IntR l (.slice o len cap)) (hB : B ≤ w.heap.size) (r : Bool) (hr : Unt.fits ⟨19, d, a, b, l⟩ regs lc lp lk = r) :
  Calls Tryz.prog 34 #[.agg #[.int .i64 19, .int .i64 d, .int .i64 a, .int .i64 b, .slice o len cap], .agg #[.int .i64 args, .bool rest, .int .i64 regs, .slice oc lc cc, .slice oa la ca], .agg #[.slice ok lk ck, .slice op lp cp]] w fun e w' => e = .returned (.bool r) ∧ Below w.heap.size w w' := by
 have e : Unt.fits ⟨19, d, a, b, l⟩ regs lc lp lk = (Unt.regB false d regs && (Unt.regB true a regs && (Unt.regB false b regs && (l.all (Unt.below · regs))))) := by
  rw [Unt.fits, show Unt.isOp 19 = true by decide, show Unt.pD 19 = false by decide, show Unt.pN 19 = false by decide, show Unt.pA 19 = true by decide, show Unt.pM 19 = false by decide, show Unt.pB 19 = false by decide, show Unt.pL 19 = true by decide, show Unt.tailOk ⟨19, d, a, b, l⟩ lc lp lk = true by simp [Unt.tailOk]]
  simp only [Bool.true_and, Bool.and_true, Bool.true_or, Bool.false_or]
 rw [e] at hr
 clear e
 obtain ⟨rD, hrD⟩ : ∃ rD, (Unt.regB false d regs) = rD := ⟨_, rfl⟩
 obtain ⟨rA, hrA⟩ : ∃ rA, (Unt.regB true a regs) = rA := ⟨_, rfl⟩
 obtain ⟨rB, hrB⟩ : ∃ rB, (Unt.regB false b regs) = rB := ⟨_, rfl⟩
 obtain ⟨rI, hrI⟩ : ∃ rI, (l.all (Unt.below · regs)) = rI := ⟨_, rfl⟩
 rw [hrD, hrA, hrB, hrI] at hr
 have HrD := Lib.hid hrD
 have HrA := Lib.hid hrA
 have HrB := Lib.hid hrB
 have HrI := Lib.hid hrI
 have HR := Lib.hid hr
 have HV := Lib.hid hv
 obtain ⟨hlen, hcap, hmax⟩ := hv.lens
 have HL := Lib.hid hlen
 clear hr hv hlen hrD hrA hrB hrI
 go_enter Tryz.func34, Tryz.ntmps34
 go_wp2_with fail
 refine (parts_19 _).mono ?_
 rintro e' w1 ⟨rfl, hb1⟩
 obtain ⟨bx, bp, bu, hb⟩ := three_boxes hb1
 have HB := Lib.hid hb
 have hs1 := bu.lt
 have z0 : w.heap.size < w1.heap.size := by omega
 have z1 : w.heap.size + 1 < w1.heap.size := by omega
 have x0 := bx.cell 0 rfl
 have x1 := bx.cell 1 rfl
 have x2 := bx.cell 2 rfl
 have x3 := bx.cell 3 rfl
 have x4 := bx.cell 4 rfl
 have p0 := bp.cell 0 rfl
 have p1 := bp.cell 1 rfl
 have p2 := bp.cell 2 rfl
 have p3 := bp.cell 3 rfl
 have u0 := bu.cell 0 rfl
 have u1 := bu.cell 1 rfl
 have HBP := Lib.hid bp
 have HKE := Lib.hid (Below.one w1 (.cells #[.bool false, .bool true, .bool false, .bool true, .bool false, .bool false] 89))
 have hp2 : ∀ X, (w1.alloc X).cell? ⟨w.heap.size + 1, 2, none⟩ = some (.int .i64 regs) := fun X => keepC (Below.one w1 X) p2
 have HP2 := Lib.hid hp2
 clear hb1 bx bp bu hb hp2
 go_wp2_with fail
 refine (reg_to false d regs rD HrD.out (w.heap.size + 1) _ (HP2.out _)).mono ?_
 rintro e' w' ⟨rfl, rfl⟩
 cases rD with
 | false =>
  obtain rfl : false = r := HR.out
  go_wp2_with fail
  go_ret
  exact ⟨rfl, HB.out.alloc (by omega) _⟩
 | true =>
  go_wp2_with fail
  refine (reg_to true a regs rA HrA.out (w.heap.size + 1) _ (HP2.out _)).mono ?_
  rintro e' w' ⟨rfl, rfl⟩
  cases rA with
  | false =>
   obtain rfl : false = r := HR.out
   go_wp2_with fail
   go_ret
   exact ⟨rfl, HB.out.alloc (by omega) _⟩
  | true =>
   go_wp2_with fail
   refine (reg_to false b regs rB HrB.out (w.heap.size + 1) _ (HP2.out _)).mono ?_
   rintro e' w' ⟨rfl, rfl⟩
   cases rB with
   | false =>
    obtain rfl : false = r := HR.out
    go_wp2_with fail
    go_ret
    exact ⟨rfl, HB.out.alloc (by omega) _⟩
   | true =>
    have HC := Lib.hid (fun X => containsG_int IntR 63 #[.pointer (some ⟨w.heap.size + 1, 0, none⟩)] (fun n => !Unt.below n regs) (!rI) l (.slice o len cap) B (w1.alloc X) (HV.out.kept ((HB.out.alloc (by omega) X).mono hB) fun _ _ _ h => h) (by simp; omega) (fun _ _ => rfl) (fun n _ c0 W hR hbW => by
      obtain ⟨hc0, _, _⟩ := hR
      obtain rfl : c0 = .int .i64 n := by simpa using hc0
      exact (regN_to n regs _ rfl (w.heap.size + 1) W (keepC hbW (HP2.out X))).mono fun e w' h => ⟨h.1, by rw [h.2]; exact Below.refl _ _⟩) (by rw [← HrI.out, ← List.not_all_eq_any_not]))
    go_wp2_with fail
    refine (HC.out _).mono ?_
    rintro e' w2 ⟨rfl, hb2⟩
    have HB2 := Lib.hid (Below.next (HB.out.alloc (by omega) _) hb2)
    have hs2 := hb2.size
    have y0 := keepC hb2 (keepC HKE.out x0)
    have y2 := keepC hb2 (keepC HKE.out x2)
    clear hb2 HC x0 x1 x2 x3 x4 p0 p1 p2 p3 u0 u1
    cases rI with
    | false =>
     obtain rfl : false = r := HR.out
     go_wp2_with fail
     go_ret
     exact ⟨rfl, HB2.out⟩
    | true =>
     obtain rfl : true = r := HR.out
     go_wp2_with fail
     go_ret
     exact ⟨rfl, HB2.out⟩
theorem fits_20 (d a b : Int) (l : List Int) (o : Option Addr) (len cap : Nat) (args regs : Int) (rest : Bool) (oc oa ok op : Option Addr) (lc cc la ca lk ck lp cp : Nat) (B : Nat) (w : World) (_ha : -9223372036854775808 ≤ a ∧ a ≤ 9223372036854775807) (hv : SlC w B 1 IntR l (.slice o len cap)) (hB : B ≤ w.heap.size) (r : Bool) (hr : Unt.fits ⟨20, d, a, b, l⟩ regs lc lp lk = r) :
  Calls Tryz.prog 34 #[.agg #[.int .i64 20, .int .i64 d, .int .i64 a, .int .i64 b, .slice o len cap], .agg #[.int .i64 args, .bool rest, .int .i64 regs, .slice oc lc cc, .slice oa la ca], .agg #[.slice ok lk ck, .slice op lp cp]] w fun e w' => e = .returned (.bool r) ∧ Below w.heap.size w w' := by
 have e : Unt.fits ⟨20, d, a, b, l⟩ regs lc lp lk = (Unt.regB false d regs && (Unt.regB true b regs && (l.all (Unt.below · regs) && (Unt.below a lp)))) := by
  rw [Unt.fits, show Unt.isOp 20 = true by decide, show Unt.pD 20 = false by decide, show Unt.pN 20 = true by decide, show Unt.pM 20 = false by decide, show Unt.pB 20 = true by decide, show Unt.pL 20 = true by decide, show Unt.tailOk ⟨20, d, a, b, l⟩ lc lp lk = Unt.below a lp by simp [Unt.tailOk]]
  simp only [Bool.true_and, Bool.true_or, Bool.false_or]
 rw [e] at hr
 clear e
 obtain ⟨rD, hrD⟩ : ∃ rD, (Unt.regB false d regs) = rD := ⟨_, rfl⟩
 obtain ⟨rB, hrB⟩ : ∃ rB, (Unt.regB true b regs) = rB := ⟨_, rfl⟩
 obtain ⟨rI, hrI⟩ : ∃ rI, (l.all (Unt.below · regs)) = rI := ⟨_, rfl⟩
 obtain ⟨rT, hrT⟩ : ∃ rT, (Unt.below a lp) = rT := ⟨_, rfl⟩
 rw [hrD, hrB, hrI, hrT] at hr
 have HrD := Lib.hid hrD
 have HrB := Lib.hid hrB
 have HrI := Lib.hid hrI
 have HrT := Lib.hid hrT
 have HR := Lib.hid hr
 have HV := Lib.hid hv
 obtain ⟨hlen, hcap, hmax⟩ := hv.lens
 have HL := Lib.hid hlen
 clear hr hv hlen hrD hrB hrI hrT
 go_enter Tryz.func34, Tryz.ntmps34
 go_wp2_with fail
 refine (parts_20 _).mono ?_
 rintro e' w1 ⟨rfl, hb1⟩
 obtain ⟨bx, bp, bu, hb⟩ := three_boxes hb1
 have HB := Lib.hid hb
 have hs1 := bu.lt
 have z0 : w.heap.size < w1.heap.size := by omega
 have z1 : w.heap.size + 1 < w1.heap.size := by omega
 have x0 := bx.cell 0 rfl
 have x1 := bx.cell 1 rfl
 have x2 := bx.cell 2 rfl
 have x3 := bx.cell 3 rfl
 have x4 := bx.cell 4 rfl
 have p0 := bp.cell 0 rfl
 have p1 := bp.cell 1 rfl
 have p2 := bp.cell 2 rfl
 have p3 := bp.cell 3 rfl
 have u0 := bu.cell 0 rfl
 have u1 := bu.cell 1 rfl
 have HBP := Lib.hid bp
 have HKE := Lib.hid (Below.one w1 (.cells #[.bool false, .bool false, .bool true, .bool true, .bool true, .bool false] 89))
 have hp2 : ∀ X, (w1.alloc X).cell? ⟨w.heap.size + 1, 2, none⟩ = some (.int .i64 regs) := fun X => keepC (Below.one w1 X) p2
 have HP2 := Lib.hid hp2
 clear hb1 bx bp bu hb hp2
 go_wp2_with fail
 refine (reg_to false d regs rD HrD.out (w.heap.size + 1) _ (HP2.out _)).mono ?_
 rintro e' w' ⟨rfl, rfl⟩
 cases rD with
 | false =>
  obtain rfl : false = r := HR.out
  go_wp2_with fail
  go_ret
  exact ⟨rfl, HB.out.alloc (by omega) _⟩
 | true =>
  go_wp2_with fail
  refine (reg_to true b regs rB HrB.out (w.heap.size + 1) _ (HP2.out _)).mono ?_
  rintro e' w' ⟨rfl, rfl⟩
  cases rB with
  | false =>
   obtain rfl : false = r := HR.out
   go_wp2_with fail
   go_ret
   exact ⟨rfl, HB.out.alloc (by omega) _⟩
  | true =>
   have HC := Lib.hid (fun X => containsG_int IntR 63 #[.pointer (some ⟨w.heap.size + 1, 0, none⟩)] (fun n => !Unt.below n regs) (!rI) l (.slice o len cap) B (w1.alloc X) (HV.out.kept ((HB.out.alloc (by omega) X).mono hB) fun _ _ _ h => h) (by simp; omega) (fun _ _ => rfl) (fun n _ c0 W hR hbW => by
     obtain ⟨hc0, _, _⟩ := hR
     obtain rfl : c0 = .int .i64 n := by simpa using hc0
     exact (regN_to n regs _ rfl (w.heap.size + 1) W (keepC hbW (HP2.out X))).mono fun e w' h => ⟨h.1, by rw [h.2]; exact Below.refl _ _⟩) (by rw [← HrI.out, ← List.not_all_eq_any_not]))
   go_wp2_with fail
   refine (HC.out _).mono ?_
   rintro e' w2 ⟨rfl, hb2⟩
   have HB2 := Lib.hid (Below.next (HB.out.alloc (by omega) _) hb2)
   have hs2 := hb2.size
   have y0 := keepC hb2 (keepC HKE.out x0)
   have y2 := keepC hb2 (keepC HKE.out x2)
   have v1 := keepC hb2 (keepC HKE.out u1)
   clear hb2 HC x0 x1 x2 x3 x4 p0 p1 p2 p3 u0 u1
   cases rI with
   | false =>
    obtain rfl : false = r := HR.out
    go_wp2_with fail
    go_ret
    exact ⟨rfl, HB2.out⟩
   | true =>
    obtain rfl : rT = r := HR.out
    go_wp2_with fail
    refine (below_to _ _ rT HrT.out _).mono ?_
    rintro e' w' ⟨rfl, rfl⟩
    go_wp2_with fail
    go_ret
    exact ⟨rfl, HB2.out⟩
theorem fits_21 (d a b : Int) (l : List Int) (o : Option Addr) (len cap : Nat) (args regs : Int) (rest : Bool) (oc oa ok op : Option Addr) (lc cc la ca lk ck lp cp : Nat) (B : Nat) (w : World) (_ha : -9223372036854775808 ≤ a ∧ a ≤ 9223372036854775807) (hv : SlC w B 1 IntR l (.slice o len cap)) (hB : B ≤ w.heap.size) (r : Bool) (hr : Unt.fits ⟨21, d, a, b, l⟩ regs lc lp lk = r) :
  Calls Tryz.prog 34 #[.agg #[.int .i64 21, .int .i64 d, .int .i64 a, .int .i64 b, .slice o len cap], .agg #[.int .i64 args, .bool rest, .int .i64 regs, .slice oc lc cc, .slice oa la ca], .agg #[.slice ok lk ck, .slice op lp cp]] w fun e w' => e = .returned (.bool r) ∧ Below w.heap.size w w' := by
 have e : Unt.fits ⟨21, d, a, b, l⟩ regs lc lp lk = (Unt.regB false d regs && (Unt.regB false b regs && (l.all (Unt.below · regs) && ((decide (a = 29) || decide (a = 30)))))) := by
  rw [Unt.fits, show Unt.isOp 21 = true by decide, show Unt.pD 21 = false by decide, show Unt.pN 21 = true by decide, show Unt.pM 21 = false by decide, show Unt.pB 21 = false by decide, show Unt.pL 21 = true by decide, show Unt.tailOk ⟨21, d, a, b, l⟩ lc lp lk = (decide (a = 29) || decide (a = 30)) by simp [Unt.tailOk]]
  simp only [Bool.true_and, Bool.true_or, Bool.false_or]
 rw [e] at hr
 clear e
 obtain ⟨rD, hrD⟩ : ∃ rD, (Unt.regB false d regs) = rD := ⟨_, rfl⟩
 obtain ⟨rB, hrB⟩ : ∃ rB, (Unt.regB false b regs) = rB := ⟨_, rfl⟩
 obtain ⟨rI, hrI⟩ : ∃ rI, (l.all (Unt.below · regs)) = rI := ⟨_, rfl⟩
 obtain ⟨rT, hrT⟩ : ∃ rT, ((decide (a = 29) || decide (a = 30))) = rT := ⟨_, rfl⟩
 rw [hrD, hrB, hrI, hrT] at hr
 have HrD := Lib.hid hrD
 have HrB := Lib.hid hrB
 have HrI := Lib.hid hrI
 have HrT := Lib.hid hrT
 have HR := Lib.hid hr
 have HV := Lib.hid hv
 obtain ⟨hlen, hcap, hmax⟩ := hv.lens
 have HL := Lib.hid hlen
 clear hr hv hlen hrD hrB hrI hrT
 go_enter Tryz.func34, Tryz.ntmps34
 go_wp2_with fail
 refine (parts_21 _).mono ?_
 rintro e' w1 ⟨rfl, hb1⟩
 obtain ⟨bx, bp, bu, hb⟩ := three_boxes hb1
 have HB := Lib.hid hb
 have hs1 := bu.lt
 have z0 : w.heap.size < w1.heap.size := by omega
 have z1 : w.heap.size + 1 < w1.heap.size := by omega
 have x0 := bx.cell 0 rfl
 have x1 := bx.cell 1 rfl
 have x2 := bx.cell 2 rfl
 have x3 := bx.cell 3 rfl
 have x4 := bx.cell 4 rfl
 have p0 := bp.cell 0 rfl
 have p1 := bp.cell 1 rfl
 have p2 := bp.cell 2 rfl
 have p3 := bp.cell 3 rfl
 have u0 := bu.cell 0 rfl
 have u1 := bu.cell 1 rfl
 have HBP := Lib.hid bp
 have HKE := Lib.hid (Below.one w1 (.cells #[.bool false, .bool false, .bool false, .bool true, .bool true, .bool false] 89))
 have hp2 : ∀ X, (w1.alloc X).cell? ⟨w.heap.size + 1, 2, none⟩ = some (.int .i64 regs) := fun X => keepC (Below.one w1 X) p2
 have HP2 := Lib.hid hp2
 clear hb1 bx bp bu hb hp2
 go_wp2_with fail
 refine (reg_to false d regs rD HrD.out (w.heap.size + 1) _ (HP2.out _)).mono ?_
 rintro e' w' ⟨rfl, rfl⟩
 cases rD with
 | false =>
  obtain rfl : false = r := HR.out
  go_wp2_with fail
  go_ret
  exact ⟨rfl, HB.out.alloc (by omega) _⟩
 | true =>
  go_wp2_with fail
  refine (reg_to false b regs rB HrB.out (w.heap.size + 1) _ (HP2.out _)).mono ?_
  rintro e' w' ⟨rfl, rfl⟩
  cases rB with
  | false =>
   obtain rfl : false = r := HR.out
   go_wp2_with fail
   go_ret
   exact ⟨rfl, HB.out.alloc (by omega) _⟩
  | true =>
   have HC := Lib.hid (fun X => containsG_int IntR 63 #[.pointer (some ⟨w.heap.size + 1, 0, none⟩)] (fun n => !Unt.below n regs) (!rI) l (.slice o len cap) B (w1.alloc X) (HV.out.kept ((HB.out.alloc (by omega) X).mono hB) fun _ _ _ h => h) (by simp; omega) (fun _ _ => rfl) (fun n _ c0 W hR hbW => by
     obtain ⟨hc0, _, _⟩ := hR
     obtain rfl : c0 = .int .i64 n := by simpa using hc0
     exact (regN_to n regs _ rfl (w.heap.size + 1) W (keepC hbW (HP2.out X))).mono fun e w' h => ⟨h.1, by rw [h.2]; exact Below.refl _ _⟩) (by rw [← HrI.out, ← List.not_all_eq_any_not]))
   go_wp2_with fail
   refine (HC.out _).mono ?_
   rintro e' w2 ⟨rfl, hb2⟩
   have HB2 := Lib.hid (Below.next (HB.out.alloc (by omega) _) hb2)
   have hs2 := hb2.size
   have y0 := keepC hb2 (keepC HKE.out x0)
   have y2 := keepC hb2 (keepC HKE.out x2)
   clear hb2 HC x0 x1 x2 x3 x4 p0 p1 p2 p3 u0 u1
   cases rI with
   | false =>
    obtain rfl : false = r := HR.out
    go_wp2_with fail
    go_ret
    exact ⟨rfl, HB2.out⟩
   | true =>
    by_cases h29 : a = 29
    ·subst h29
     obtain rfl : true = r := by rw [← HR.out, ← HrT.out]; rfl
     go_wp2_with fail
     go_ret
     exact ⟨rfl, HB2.out⟩
    ·have h29' : (a == 29) = false := by simpa using h29
     by_cases h30 : a = 30
     ·subst h30
      obtain rfl : true = r := by rw [← HR.out, ← HrT.out]; rfl
      go_wp2_with fail
      go_ret
      exact ⟨rfl, HB2.out⟩
     ·have h30' : (a == 30) = false := by simpa using h30
      obtain rfl : false = r := by rw [← HR.out, ← HrT.out]; simp [h29, h30]
      go_wp2_with fail
      go_ret
      exact ⟨rfl, HB2.out⟩
theorem fits_22 (d a b : Int) (l : List Int) (o : Option Addr) (len cap : Nat) (args regs : Int) (rest : Bool) (oc oa ok op : Option Addr) (lc cc la ca lk ck lp cp : Nat) (B : Nat) (w : World) (_ha : -9223372036854775808 ≤ a ∧ a ≤ 9223372036854775807) (hv : SlC w B 1 IntR l (.slice o len cap)) (hB : B ≤ w.heap.size) (r : Bool) (hr : Unt.fits ⟨22, d, a, b, l⟩ regs lc lp lk = r) :
  Calls Tryz.prog 34 #[.agg #[.int .i64 22, .int .i64 d, .int .i64 a, .int .i64 b, .slice o len cap], .agg #[.int .i64 args, .bool rest, .int .i64 regs, .slice oc lc cc, .slice oa la ca], .agg #[.slice ok lk ck, .slice op lp cp]] w fun e w' => e = .returned (.bool r) ∧ Below w.heap.size w w' := by
 have e : Unt.fits ⟨22, d, a, b, l⟩ regs lc lp lk = (Unt.regB false d regs && (Unt.regB true a regs && (Unt.regB false b regs && (decide (l.length ≤ 0) && (l.all (Unt.below · regs)))))) := by
  rw [Unt.fits, show Unt.isOp 22 = true by decide, show Unt.pD 22 = false by decide, show Unt.pN 22 = false by decide, show Unt.pA 22 = true by decide, show Unt.pM 22 = false by decide, show Unt.pB 22 = false by decide, show Unt.pL 22 = false by decide, show Unt.tailOk ⟨22, d, a, b, l⟩ lc lp lk = true by simp [Unt.tailOk]]
  simp only [Bool.true_and, Bool.and_true, Bool.false_or]
 rw [e] at hr
 clear e
 obtain ⟨rD, hrD⟩ : ∃ rD, (Unt.regB false d regs) = rD := ⟨_, rfl⟩
 obtain ⟨rA, hrA⟩ : ∃ rA, (Unt.regB true a regs) = rA := ⟨_, rfl⟩
 obtain ⟨rB, hrB⟩ : ∃ rB, (Unt.regB false b regs) = rB := ⟨_, rfl⟩
 obtain ⟨rL, hrL⟩ : ∃ rL, (decide (l.length ≤ 0)) = rL := ⟨_, rfl⟩
 obtain ⟨rI, hrI⟩ : ∃ rI, (l.all (Unt.below · regs)) = rI := ⟨_, rfl⟩
 rw [hrD, hrA, hrB, hrL, hrI] at hr
 have HrD := Lib.hid hrD
 have HrA := Lib.hid hrA
 have HrB := Lib.hid hrB
 have HrL := Lib.hid hrL
 have HrI := Lib.hid hrI
 have HR := Lib.hid hr
 have HV := Lib.hid hv
 obtain ⟨hlen, hcap, hmax⟩ := hv.lens
 have HL := Lib.hid hlen
 clear hr hv hlen hrD hrA hrB hrL hrI
 go_enter Tryz.func34, Tryz.ntmps34
 go_wp2_with fail
 refine (parts_22 _).mono ?_
 rintro e' w1 ⟨rfl, hb1⟩
 obtain ⟨bx, bp, bu, hb⟩ := three_boxes hb1
 have HB := Lib.hid hb
 have hs1 := bu.lt
 have z0 : w.heap.size < w1.heap.size := by omega
 have z1 : w.heap.size + 1 < w1.heap.size := by omega
 have x0 := bx.cell 0 rfl
 have x1 := bx.cell 1 rfl
 have x2 := bx.cell 2 rfl
 have x3 := bx.cell 3 rfl
 have x4 := bx.cell 4 rfl
 have p0 := bp.cell 0 rfl
 have p1 := bp.cell 1 rfl
 have p2 := bp.cell 2 rfl
 have p3 := bp.cell 3 rfl
 have u0 := bu.cell 0 rfl
 have u1 := bu.cell 1 rfl
 have HBP := Lib.hid bp
 have HKE := Lib.hid (Below.one w1 (.cells #[.bool false, .bool true, .bool false, .bool false, .bool false, .bool false] 89))
 have hp2 : ∀ X, (w1.alloc X).cell? ⟨w.heap.size + 1, 2, none⟩ = some (.int .i64 regs) := fun X => keepC (Below.one w1 X) p2
 have HP2 := Lib.hid hp2
 clear hb1 bx bp bu hb hp2
 go_wp2_with fail
 refine (reg_to false d regs rD HrD.out (w.heap.size + 1) _ (HP2.out _)).mono ?_
 rintro e' w' ⟨rfl, rfl⟩
 cases rD with
 | false =>
  obtain rfl : false = r := HR.out
  go_wp2_with fail
  go_ret
  exact ⟨rfl, HB.out.alloc (by omega) _⟩
 | true =>
  go_wp2_with fail
  refine (reg_to true a regs rA HrA.out (w.heap.size + 1) _ (HP2.out _)).mono ?_
  rintro e' w' ⟨rfl, rfl⟩
  cases rA with
  | false =>
   obtain rfl : false = r := HR.out
   go_wp2_with fail
   go_ret
   exact ⟨rfl, HB.out.alloc (by omega) _⟩
  | true =>
   go_wp2_with fail
   refine (reg_to false b regs rB HrB.out (w.heap.size + 1) _ (HP2.out _)).mono ?_
   rintro e' w' ⟨rfl, rfl⟩
   cases rB with
   | false =>
    obtain rfl : false = r := HR.out
    go_wp2_with fail
    go_ret
    exact ⟨rfl, HB.out.alloc (by omega) _⟩
   | true =>
    cases rL with
    | false =>
     have hpos : 0 < len := by have h1 := of_decide_eq_false HrL.out; have h2 := HL.out; omega
     obtain rfl : false = r := HR.out
     go_wp2_with fail
     go_ret
     exact ⟨rfl, HB.out.alloc (by omega) _⟩
    | true =>
     have hzero : len = 0 := by have h1 := of_decide_eq_true HrL.out; have h2 := HL.out; omega
     have hz2 : ¬ 0 < len := by omega
     clear hzero
     have HC := Lib.hid (fun X => containsG_int IntR 63 #[.pointer (some ⟨w.heap.size + 1, 0, none⟩)] (fun n => !Unt.below n regs) (!rI) l (.slice o len cap) B (w1.alloc X) (HV.out.kept ((HB.out.alloc (by omega) X).mono hB) fun _ _ _ h => h) (by simp; omega) (fun _ _ => rfl) (fun n _ c0 W hR hbW => by
       obtain ⟨hc0, _, _⟩ := hR
       obtain rfl : c0 = .int .i64 n := by simpa using hc0
       exact (regN_to n regs _ rfl (w.heap.size + 1) W (keepC hbW (HP2.out X))).mono fun e w' h => ⟨h.1, by rw [h.2]; exact Below.refl _ _⟩) (by rw [← HrI.out, ← List.not_all_eq_any_not]))
     go_wp2_with fail
     refine (HC.out _).mono ?_
     rintro e' w2 ⟨rfl, hb2⟩
     have HB2 := Lib.hid (Below.next (HB.out.alloc (by omega) _) hb2)
     have hs2 := hb2.size
     have y0 := keepC hb2 (keepC HKE.out x0)
     have y2 := keepC hb2 (keepC HKE.out x2)
     clear hb2 HC x0 x1 x2 x3 x4 p0 p1 p2 p3 u0 u1
     cases rI with
     | false =>
      obtain rfl : false = r := HR.out
      go_wp2_with fail
      go_ret
      exact ⟨rfl, HB2.out⟩
     | true =>
      obtain rfl : true = r := HR.out
      go_wp2_with fail
      go_ret
      exact ⟨rfl, HB2.out⟩
theorem fits_no (k : Int) (hk : k < 0 ∨ 22 < k) (d a b : Int) (l : List Int) (o : Option Addr) (len cap : Nat) (args regs : Int) (rest : Bool) (oc oa ok op : Option Addr) (lc cc la ca lk ck lp cp : Nat) (B : Nat) (w : World) (_ha : -9223372036854775808 ≤ a ∧ a ≤ 9223372036854775807) (_hv : SlC w B 1 IntR l (.slice o len cap)) (_hB : B ≤ w.heap.size) (r : Bool) (hr : Unt.fits ⟨k, d, a, b, l⟩ regs lc lp lk = r) :
  Calls Tryz.prog 34 #[.agg #[.int .i64 k, .int .i64 d, .int .i64 a, .int .i64 b, .slice o len cap], .agg #[.int .i64 args, .bool rest, .int .i64 regs, .slice oc lc cc, .slice oa la ca], .agg #[.slice ok lk ck, .slice op lp cp]] w fun e w' => e = .returned (.bool r) ∧ Below w.heap.size w w' := by
 obtain rfl : false = r := by
  rw [← hr, Unt.fits, show Unt.isOp k = false from by simp [Unt.isOp]; omega]; rfl
 have HK := Lib.hid hk
 clear hr hk
 go_enter Tryz.func34, Tryz.ntmps34
 go_wp2_with fail
 refine (parts_no k HK.out _).mono ?_
 rintro e' w1 ⟨rfl, hb1⟩
 obtain ⟨bx, bp, bu, hb⟩ := three_boxes hb1
 have HB := Lib.hid hb
 have hs1 := bu.lt
 clear hb1 bx bp bu hb
 go_wp2_with fail
 go_ret
 exact ⟨rfl, HB.out.alloc (by omega) _⟩
end
section
open Go.RowKit
theorem info_ins : (Tryz.prog.info? 34).map (fun i => (i.zero, i.size, i.bytes)) = some (some (.agg #[.int .i64 0, .int .i64 0, .int .i64 0, .int .i64 0, .slice none 0 0]), 5, 56) := by kernel_rfl
theorem keepR {W W' : World} (hb : Below W.heap.size W W') {b n : Nat} {t : TypeId} {f : Nat → Value} (h : W.rowIs b t n f) : W'.rowIs b t n f := h.of_block (hb.block _ h.lt)
theorem ownsRow_keep {W W' : World} {base n size : Nat} {e : TypeId} {v : Value} {xs : List Value} (h : W.ownsRow base e size v n xs) (hb : Below W.heap.size W W') : W'.ownsRow base e size v n xs :=
 h.kept (row := none) ⟨hb.os, hb.tape, hb.output, hb.size, fun k hk _ => hb.block k hk⟩ (by cases h : v.ownBlock with
  | none => exact .inl rfl
  | some _ => exact .inr (by simp))
theorem SlC.cells {α : Type} {w w' : World} {B size : Nat} {R R' : α → List Value → Prop} {l : List α} {v : Value} (h : SlC w B size R l v) (hk : ∀ b o u, w.cell? ⟨b, o, none⟩ = some u → w'.cell? ⟨b, o, none⟩ = some u) (hR : ∀ x ∈ l, ∀ cs, R x cs → R' x cs) : SlC w' B size R' l v := by
 obtain ⟨o, len, cap, rfl, h1, h2, h3, h4⟩ := h
 refine ⟨o, len, cap, rfl, h1, h2, h3, ?_⟩
 cases o with
 | none => exact h4
 | some a =>
  refine ⟨h4.1, fun i x hx => ?_⟩
  obtain ⟨cs, hl, hc, hr⟩ := h4.2 i x hx
  exact ⟨cs, hl, fun j u hu => hk _ _ _ (hc j u hu), hR x (List.mem_of_getElem? hx) cs hr⟩
theorem InsR.cells {w w' : World} {B : Nat} {x : Ins} {cs : List Value} (h : InsR w B x cs) (hk : ∀ b o u, w.cell? ⟨b, o, none⟩ = some u → w'.cell? ⟨b, o, none⟩ = some u) : InsR w' B x cs := by
 obtain ⟨sl, h0, h1, h2, h3, h4, h5⟩ := h
 exact ⟨sl, h0, h1, h2, h3, h4, h5.cells hk fun _ _ _ h => h⟩
theorem gap_heap {W : World} {lo hi c : Nat} (h : ¬ (lo ≤ c ∧ c < hi)) : (gap W lo hi).heap[c]? = W.heap[c]? := by
 simp only [gap, Array.getElem?_mapIdx]
 simp only [if_neg h, Option.map_id_fun', id]
theorem gap_size (W : World) (lo hi : Nat) : (gap W lo hi).heap.size = W.heap.size := by simp [gap]
theorem ownsRow_gap {W : World} {base n size lo hi : Nat} {e : TypeId} {v : Value} {xs : List Value} (h : W.ownsRow base e size v n xs) (hb : hi ≤ base) : (gap W lo hi).ownsRow base e size v n xs := by
 refine ⟨h.1, ?_⟩
 rcases h.2 with h' | ⟨g, cap, cur, h1, h2, h3, h4⟩
 ·exact .inl h'
 ·exact .inr ⟨g, cap, cur, h1, h2, by rw [gap_heap (by omega)]; exact h3, h4⟩
end
end Go.Proofs.YtigkhmppnnljiaaGreatDoor

/-
  What the proofs lean on: Fits3, Few18, ModOpen.
-/
import Derived.Test.YtigkhmppnnljiaaGreatDoorPreA13
set_option maxRecDepth 100000
set_option maxHeartbeats 16000000
namespace Go.Proofs.YtigkhmppnnljiaaGreatDoor
section
open Go.RowKit
theorem fits_16 (d a b : Int) (l : List Int) (o : Option Addr) (len cap : Nat) (args regs : Int) (rest : Bool) (oc oa ok op : Option Addr) (lc cc la ca lk ck lp cp : Nat) (B : Nat) (w : World) (_ha : -9223372036854775808 ≤ a ∧ a ≤ 9223372036854775807) (hv : SlC w B 1 IntR l (.slice o len cap)) (hB : B ≤ w.heap.size) (r : Bool) (hr : Unt.fits ⟨16, d, a, b, l⟩ regs lc lp lk = r) :
  Calls Tryz.prog 34 #[.agg #[.int .i64 16, .int .i64 d, .int .i64 a, .int .i64 b, .slice o len cap], .agg #[.int .i64 args, .bool rest, .int .i64 regs, .slice oc lc cc, .slice oa la ca], .agg #[.slice ok lk ck, .slice op lp cp]] w fun e w' => e = .returned (.bool r) ∧ Below w.heap.size w w' := by
 have e : Unt.fits ⟨16, d, a, b, l⟩ regs lc lp lk = (Unt.regB false d regs && (Unt.regB true a regs && (decide (l.length ≤ 0) && (l.all (Unt.below · regs) && (Unt.below b lc))))) := by
  rw [Unt.fits, show Unt.isOp 16 = true by decide, show Unt.pD 16 = false by decide, show Unt.pN 16 = false by decide, show Unt.pA 16 = true by decide, show Unt.pM 16 = true by decide, show Unt.pL 16 = false by decide, show Unt.tailOk ⟨16, d, a, b, l⟩ lc lp lk = Unt.below b lc by simp [Unt.tailOk]]
  simp only [Bool.true_and, Bool.true_or, Bool.false_or]
 rw [e] at hr
 clear e
 obtain ⟨rD, hrD⟩ : ∃ rD, (Unt.regB false d regs) = rD := ⟨_, rfl⟩
 obtain ⟨rA, hrA⟩ : ∃ rA, (Unt.regB true a regs) = rA := ⟨_, rfl⟩
 obtain ⟨rL, hrL⟩ : ∃ rL, (decide (l.length ≤ 0)) = rL := ⟨_, rfl⟩
 obtain ⟨rI, hrI⟩ : ∃ rI, (l.all (Unt.below · regs)) = rI := ⟨_, rfl⟩
 obtain ⟨rT, hrT⟩ : ∃ rT, (Unt.below b lc) = rT := ⟨_, rfl⟩
 rw [hrD, hrA, hrL, hrI, hrT] at hr
 have HrD := Lib.hid hrD
 have HrA := Lib.hid hrA
 have HrL := Lib.hid hrL
 have HrI := Lib.hid hrI
 have HrT := Lib.hid hrT
 have HR := Lib.hid hr
 have HV := Lib.hid hv
 obtain ⟨hlen, hcap, hmax⟩ := hv.lens
 have HL := Lib.hid hlen
 clear hr hv hlen hrD hrA hrL hrI hrT
 go_enter Tryz.func34, Tryz.ntmps34
 go_wp2_with fail
 refine (parts_16 _).mono ?_
 rintro e' w1 ⟨rfl, hb1⟩
 obtain ⟨bx, bp, bu, hb⟩ := three_boxes hb1
 have HB := Lib.hid hb
 have hs1 := bu.lt
 have z0 : w.heap.size < w1.heap.size := by omega
 have z1 : w.heap.size + 1 < w1.heap.size := by omega
 have x0 := bx.cell 0 rfl
 have x1 := bx.cell 1 rfl
 have x2 := bx.cell 2 rfl
 have x3 := bx.cell 3 rfl
 have x4 := bx.cell 4 rfl
 have p0 := bp.cell 0 rfl
 have p1 := bp.cell 1 rfl
 have p2 := bp.cell 2 rfl
 have p3 := bp.cell 3 rfl
 have u0 := bu.cell 0 rfl
 have u1 := bu.cell 1 rfl
 have HBP := Lib.hid bp
 have HKE := Lib.hid (Below.one w1 (.cells #[.bool false, .bool true, .bool false, .bool false, .bool false, .bool true] 89))
 have hp2 : ∀ X, (w1.alloc X).cell? ⟨w.heap.size + 1, 2, none⟩ = some (.int .i64 regs) := fun X => keepC (Below.one w1 X) p2
 have HP2 := Lib.hid hp2
 clear hb1 bx bp bu hb hp2
 go_wp2_with fail
 refine (reg_to false d regs rD HrD.out (w.heap.size + 1) _ (HP2.out _)).mono ?_
 rintro e' w' ⟨rfl, rfl⟩
 cases rD with
 | false =>
  obtain rfl : false = r := HR.out
  go_wp2_with fail
  go_ret
  exact ⟨rfl, HB.out.alloc (by omega) _⟩
 | true =>
  go_wp2_with fail
  refine (reg_to true a regs rA HrA.out (w.heap.size + 1) _ (HP2.out _)).mono ?_
  rintro e' w' ⟨rfl, rfl⟩
  cases rA with
  | false =>
   obtain rfl : false = r := HR.out
   go_wp2_with fail
   go_ret
   exact ⟨rfl, HB.out.alloc (by omega) _⟩
  | true =>
   cases rL with
   | false =>
    have hpos : 0 < len := by have h1 := of_decide_eq_false HrL.out; have h2 := HL.out; omega
    obtain rfl : false = r := HR.out
    go_wp2_with fail
    go_ret
    exact ⟨rfl, HB.out.alloc (by omega) _⟩
   | true =>
    have hzero : len = 0 := by have h1 := of_decide_eq_true HrL.out; have h2 := HL.out; omega
    have hz2 : ¬ 0 < len := by omega
    clear hzero
    have HC := Lib.hid (fun X => containsG_int IntR 63 #[.pointer (some ⟨w.heap.size + 1, 0, none⟩)] (fun n => !Unt.below n regs) (!rI) l (.slice o len cap) B (w1.alloc X) (HV.out.kept ((HB.out.alloc (by omega) X).mono hB) fun _ _ _ h => h) (by simp; omega) (fun _ _ => rfl) (fun n _ c0 W hR hbW => by
      obtain ⟨hc0, _, _⟩ := hR
      obtain rfl : c0 = .int .i64 n := by simpa using hc0
      exact (regN_to n regs _ rfl (w.heap.size + 1) W (keepC hbW (HP2.out X))).mono fun e w' h => ⟨h.1, by rw [h.2]; exact Below.refl _ _⟩) (by rw [← HrI.out, ← List.not_all_eq_any_not]))
    go_wp2_with fail
    refine (HC.out _).mono ?_
    rintro e' w2 ⟨rfl, hb2⟩
    have HB2 := Lib.hid (Below.next (HB.out.alloc (by omega) _) hb2)
    have hs2 := hb2.size
    have y0 := keepC hb2 (keepC HKE.out x0)
    have y2 := keepC hb2 (keepC HKE.out x2)
    have y3 := keepC hb2 (keepC HKE.out x3)
    have q3 := keepC hb2 (keepC HKE.out p3)
    clear hb2 HC x0 x1 x2 x3 x4 p0 p1 p2 p3 u0 u1
    cases rI with
    | false =>
     obtain rfl : false = r := HR.out
     go_wp2_with fail
     go_ret
     exact ⟨rfl, HB2.out⟩
    | true =>
     obtain rfl : rT = r := HR.out
     go_wp2_with fail
     refine (below_to _ _ rT HrT.out _).mono ?_
     rintro e' w' ⟨rfl, rfl⟩
     go_wp2_with fail
     go_ret
     exact ⟨rfl, HB2.out⟩
theorem fits_17 (d a b : Int) (l : List Int) (o : Option Addr) (len cap : Nat) (args regs : Int) (rest : Bool) (oc oa ok op : Option Addr) (lc cc la ca lk ck lp cp : Nat) (B : Nat) (w : World) (_ha : -9223372036854775808 ≤ a ∧ a ≤ 9223372036854775807) (hv : SlC w B 1 IntR l (.slice o len cap)) (hB : B ≤ w.heap.size) (r : Bool) (hr : Unt.fits ⟨17, d, a, b, l⟩ regs lc lp lk = r) :
  Calls Tryz.prog 34 #[.agg #[.int .i64 17, .int .i64 d, .int .i64 a, .int .i64 b, .slice o len cap], .agg #[.int .i64 args, .bool rest, .int .i64 regs, .slice oc lc cc, .slice oa la ca], .agg #[.slice ok lk ck, .slice op lp cp]] w fun e w' => e = .returned (.bool r) ∧ Below w.heap.size w w' := by
 have e : Unt.fits ⟨17, d, a, b, l⟩ regs lc lp lk = (Unt.regB true d regs && (Unt.regB true a regs && (Unt.regB false b regs && (l.all (Unt.below · regs))))) := by
  rw [Unt.fits, show Unt.isOp 17 = true by decide, show Unt.pD 17 = true by decide, show Unt.pN 17 = false by decide, show Unt.pA 17 = true by decide, show Unt.pM 17 = false by decide, show Unt.pB 17 = false by decide, show Unt.pL 17 = true by decide, show Unt.tailOk ⟨17, d, a, b, l⟩ lc lp lk = true by simp [Unt.tailOk]]
  simp only [Bool.true_and, Bool.and_true, Bool.true_or, Bool.false_or]
 rw [e] at hr
 clear e
 obtain ⟨rD, hrD⟩ : ∃ rD, (Unt.regB true d regs) = rD := ⟨_, rfl⟩
 obtain ⟨rA, hrA⟩ : ∃ rA, (Unt.regB true a regs) = rA := ⟨_, rfl⟩
 obtain ⟨rB, hrB⟩ : ∃ rB, (Unt.regB false b regs) = rB := ⟨_, rfl⟩
 obtain ⟨rI, hrI⟩ : ∃ rI, (l.all (Unt.below · regs)) = rI := ⟨_, rfl⟩
 rw [hrD, hrA, hrB, hrI] at hr
 have HrD := Lib.hid hrD
 have HrA := Lib.hid hrA
 have HrB := Lib.hid hrB
 have HrI := Lib.hid hrI
 have HR := Lib.hid hr
 have HV := Lib.hid hv
 obtain ⟨hlen, hcap, hmax⟩ := hv.lens
 have HL := Lib.hid hlen
 clear hr hv hlen hrD hrA hrB hrI
 go_enter Tryz.func34, Tryz.ntmps34
 go_wp2_with fail
 refine (parts_17 _).mono ?_
 rintro e' w1 ⟨rfl, hb1⟩
 obtain ⟨bx, bp, bu, hb⟩ := three_boxes hb1
 have HB := Lib.hid hb
 have hs1 := bu.lt
 have z0 : w.heap.size < w1.heap.size := by omega
 have z1 : w.heap.size + 1 < w1.heap.size := by omega
 have x0 := bx.cell 0 rfl
 have x1 := bx.cell 1 rfl
 have x2 := bx.cell 2 rfl
 have x3 := bx.cell 3 rfl
 have x4 := bx.cell 4 rfl
 have p0 := bp.cell 0 rfl
 have p1 := bp.cell 1 rfl
 have p2 := bp.cell 2 rfl
 have p3 := bp.cell 3 rfl
 have u0 := bu.cell 0 rfl
 have u1 := bu.cell 1 rfl
 have HBP := Lib.hid bp
 have HKE := Lib.hid (Below.one w1 (.cells #[.bool true, .bool true, .bool false, .bool true, .bool false, .bool false] 89))
 have hp2 : ∀ X, (w1.alloc X).cell? ⟨w.heap.size + 1, 2, none⟩ = some (.int .i64 regs) := fun X => keepC (Below.one w1 X) p2
 have HP2 := Lib.hid hp2
 clear hb1 bx bp bu hb hp2
 go_wp2_with fail
 refine (reg_to true d regs rD HrD.out (w.heap.size + 1) _ (HP2.out _)).mono ?_
 rintro e' w' ⟨rfl, rfl⟩
 cases rD with
 | false =>
  obtain rfl : false = r := HR.out
  go_wp2_with fail
  go_ret
  exact ⟨rfl, HB.out.alloc (by omega) _⟩
 | true =>
  go_wp2_with fail
  refine (reg_to true a regs rA HrA.out (w.heap.size + 1) _ (HP2.out _)).mono ?_
  rintro e' w' ⟨rfl, rfl⟩
  cases rA with
  | false =>
   obtain rfl : false = r := HR.out
   go_wp2_with fail
   go_ret
   exact ⟨rfl, HB.out.alloc (by omega) _⟩
  | true =>
   go_wp2_with fail
   refine (reg_to false b regs rB HrB.out (w.heap.size + 1) _ (HP2.out _)).mono ?_
   rintro e' w' ⟨rfl, rfl⟩
   cases rB with
   | false =>
    obtain rfl : false = r := HR.out
    go_wp2_with fail
    go_ret
    exact ⟨rfl, HB.out.alloc (by omega) _⟩
   | true =>
    have HC := Lib.hid (fun X => containsG_int IntR 63 #[.pointer (some ⟨w.heap.size + 1, 0, none⟩)] (fun n => !Unt.below n regs) (!rI) l (.slice o len cap) B (w1.alloc X) (HV.out.kept ((HB.out.alloc (by omega) X).mono hB) fun _ _ _ h => h) (by simp; omega) (fun _ _ => rfl) (fun n _ c0 W hR hbW => by
      obtain ⟨hc0, _, _⟩ := hR
      obtain rfl : c0 = .int .i64 n := by simpa using hc0
      exact (regN_to n regs _ rfl (w.heap.size + 1) W (keepC hbW (HP2.out X))).mono fun e w' h => ⟨h.1, by rw [h.2]; exact Below.refl _ _⟩) (by rw [← HrI.out, ← List.not_all_eq_any_not]))
    go_wp2_with fail
    refine (HC.out _).mono ?_
    rintro e' w2 ⟨rfl, hb2⟩
    have HB2 := Lib.hid (Below.next (HB.out.alloc (by omega) _) hb2)
    have hs2 := hb2.size
    have y0 := keepC hb2 (keepC HKE.out x0)
    have y2 := keepC hb2 (keepC HKE.out x2)
    clear hb2 HC x0 x1 x2 x3 x4 p0 p1 p2 p3 u0 u1
    cases rI with
    | false =>
     obtain rfl : false = r := HR.out
     go_wp2_with fail
     go_ret
     exact ⟨rfl, HB2.out⟩
    | true =>
     obtain rfl : true = r := HR.out
     go_wp2_with fail
     go_ret
     exact ⟨rfl, HB2.out⟩
theorem fits_18 (d a b : Int) (l : List Int) (o : Option Addr) (len cap : Nat) (args regs : Int) (rest : Bool) (oc oa ok op : Option Addr) (lc cc la ca lk ck lp cp : Nat) (B : Nat) (w : World) (_ha : -9223372036854775808 ≤ a ∧ a ≤ 9223372036854775807) (hv : SlC w B 1 IntR l (.slice o len cap)) (hB : B ≤ w.heap.size) (r : Bool) (hr : Unt.fits ⟨18, d, a, b, l⟩ regs lc lp lk = r) :
  Calls Tryz.prog 34 #[.agg #[.int .i64 18, .int .i64 d, .int .i64 a, .int .i64 b, .slice o len cap], .agg #[.int .i64 args, .bool rest, .int .i64 regs, .slice oc lc cc, .slice oa la ca], .agg #[.slice ok lk ck, .slice op lp cp]] w fun e w' => e = .returned (.bool r) ∧ Below w.heap.size w w' := by
 have e : Unt.fits ⟨18, d, a, b, l⟩ regs lc lp lk = (Unt.regB true d regs && (Unt.regB true b regs && (l.all (Unt.below · regs) && (Unt.below a lp)))) := by
  rw [Unt.fits, show Unt.isOp 18 = true by decide, show Unt.pD 18 = true by decide, show Unt.pN 18 = true by decide, show Unt.pM 18 = false by decide, show Unt.pB 18 = true by decide, show Unt.pL 18 = true by decide, show Unt.tailOk ⟨18, d, a, b, l⟩ lc lp lk = Unt.below a lp by simp [Unt.tailOk]]
  simp only [Bool.true_and, Bool.true_or, Bool.false_or]
 rw [e] at hr
 clear e
 obtain ⟨rD, hrD⟩ : ∃ rD, (Unt.regB true d regs) = rD := ⟨_, rfl⟩
 obtain ⟨rB, hrB⟩ : ∃ rB, (Unt.regB true b regs) = rB := ⟨_, rfl⟩
 obtain ⟨rI, hrI⟩ : ∃ rI, (l.all (Unt.below · regs)) = rI := ⟨_, rfl⟩
 obtain ⟨rT, hrT⟩ : ∃ rT, (Unt.below a lp) = rT := ⟨_, rfl⟩
 rw [hrD, hrB, hrI, hrT] at hr
 have HrD := Lib.hid hrD
 have HrB := Lib.hid hrB
 have HrI := Lib.hid hrI
 have HrT := Lib.hid hrT
 have HR := Lib.hid hr
 have HV := Lib.hid hv
 obtain ⟨hlen, hcap, hmax⟩ := hv.lens
 have HL := Lib.hid hlen
 clear hr hv hlen hrD hrB hrI hrT
 go_enter Tryz.func34, Tryz.ntmps34
 go_wp2_with fail
 refine (parts_18 _).mono ?_
 rintro e' w1 ⟨rfl, hb1⟩
 obtain ⟨bx, bp, bu, hb⟩ := three_boxes hb1
 have HB := Lib.hid hb
 have hs1 := bu.lt
 have z0 : w.heap.size < w1.heap.size := by omega
 have z1 : w.heap.size + 1 < w1.heap.size := by omega
 have x0 := bx.cell 0 rfl
 have x1 := bx.cell 1 rfl
 have x2 := bx.cell 2 rfl
 have x3 := bx.cell 3 rfl
 have x4 := bx.cell 4 rfl
 have p0 := bp.cell 0 rfl
 have p1 := bp.cell 1 rfl
 have p2 := bp.cell 2 rfl
 have p3 := bp.cell 3 rfl
 have u0 := bu.cell 0 rfl
 have u1 := bu.cell 1 rfl
 have HBP := Lib.hid bp
 have HKE := Lib.hid (Below.one w1 (.cells #[.bool true, .bool false, .bool true, .bool true, .bool true, .bool false] 89))
 have hp2 : ∀ X, (w1.alloc X).cell? ⟨w.heap.size + 1, 2, none⟩ = some (.int .i64 regs) := fun X => keepC (Below.one w1 X) p2
 have HP2 := Lib.hid hp2
 clear hb1 bx bp bu hb hp2
 go_wp2_with fail
 refine (reg_to true d regs rD HrD.out (w.heap.size + 1) _ (HP2.out _)).mono ?_
 rintro e' w' ⟨rfl, rfl⟩
 cases rD with
 | false =>
  obtain rfl : false = r := HR.out
  go_wp2_with fail
  go_ret
  exact ⟨rfl, HB.out.alloc (by omega) _⟩
 | true =>
  go_wp2_with fail
  refine (reg_to true b regs rB HrB.out (w.heap.size + 1) _ (HP2.out _)).mono ?_
  rintro e' w' ⟨rfl, rfl⟩
  cases rB with
  | false =>
   obtain rfl : false = r := HR.out
   go_wp2_with fail
   go_ret
   exact ⟨rfl, HB.out.alloc (by omega) _⟩
  | true =>
   have HC := Lib.hid (fun X => containsG_int IntR 63 #[.pointer (some ⟨w.heap.size + 1, 0, none⟩)] (fun n => !Unt.below n regs) (!rI) l (.slice o len cap) B (w1.alloc X) (HV.out.kept ((HB.out.alloc (by omega) X).mono hB) fun _ _ _ h => h) (by simp; omega) (fun _ _ => rfl) (fun n _ c0 W hR hbW => by
     obtain ⟨hc0, _, _⟩ := hR
     obtain rfl : c0 = .int .i64 n := by simpa using hc0
     exact (regN_to n regs _ rfl (w.heap.size + 1) W (keepC hbW (HP2.out X))).mono fun e w' h => ⟨h.1, by rw [h.2]; exact Below.refl _ _⟩) (by rw [← HrI.out, ← List.not_all_eq_any_not]))
   go_wp2_with fail
   refine (HC.out _).mono ?_
   rintro e' w2 ⟨rfl, hb2⟩
   have HB2 := Lib.hid (Below.next (HB.out.alloc (by omega) _) hb2)
   have hs2 := hb2.size
   have y0 := keepC hb2 (keepC HKE.out x0)
   have y2 := keepC hb2 (keepC HKE.out x2)
   have v1 := keepC hb2 (keepC HKE.out u1)
   clear hb2 HC x0 x1 x2 x3 x4 p0 p1 p2 p3 u0 u1
   cases rI with
   | false =>
    obtain rfl : false = r := HR.out
    go_wp2_with fail
    go_ret
    exact ⟨rfl, HB2.out⟩
   | true =>
    obtain rfl : rT = r := HR.out
    go_wp2_with fail
    refine (below_to _ _ rT HrT.out _).mono ?_
    rintro e' w' ⟨rfl, rfl⟩
    go_wp2_with fail
    go_ret
    exact ⟨rfl, HB2.out⟩
theorem fits_19 (d a b : Int) (l : List Int) (o : Option Addr) (len cap : Nat) (args regs : Int) (rest : Bool) (oc oa ok op : Option Addr) (lc cc la ca lk ck lp cp : Nat) (B : Nat) (w : World) (_ha : -9223372036854775808 ≤ a ∧ a ≤ 9223372036854775807) (hv : SlC w B 1 IntR l (.slice o len cap)) (hB : B ≤ w.heap.size) (r : Bool) (hr : Unt.fits ⟨19, d, a, b, l⟩ regs lc lp lk = r) :
  Calls Tryz.prog 34 #[.agg #[.int .i64 19, .int .i64 d, .int .i64 a, .int .i64 b, .slice o len cap], .agg #[.int .i64 args, .bool rest, .int .i64 regs, .slice oc lc cc, .slice oa la ca], .agg #[.slice ok lk ck, .slice op lp cp]] w fun e w' => e = .returned (.bool r) ∧ Below w.heap.size w w' := by
 have e : Unt.fits ⟨19, d, a, b, l⟩ regs lc lp lk = (Unt.regB false d regs && (Unt.regB true a regs && (Unt.regB false b regs && (l.all (Unt.below · regs))))) := by
  rw [Unt.fits, show Unt.isOp 19 = true by decide, show Unt.pD 19 = false by decide, show Unt.pN 19 = false by decide, show Unt.pA 19 = true by decide, show Unt.pM 19 = false by decide, show Unt.pB 19 = false by decide, show Unt.pL 19 = true by decide, show Unt.tailOk ⟨19, d, a, b, l⟩ lc lp lk = true by simp [Unt.tailOk]]
  simp only [Bool.true_and, Bool.and_true, Bool.true_or, Bool.false_or]
 rw [e] at hr
 clear e
 obtain ⟨rD, hrD⟩ : ∃ rD, (Unt.regB false d regs) = rD := ⟨_, rfl⟩
 obtain ⟨rA, hrA⟩ : ∃ rA, (Unt.regB true a regs) = rA := ⟨_, rfl⟩
 obtain ⟨rB, hrB⟩ : ∃ rB, (Unt.regB false b regs) = rB := ⟨_, rfl⟩
 obtain ⟨rI, hrI⟩ : ∃ rI, (l.all (Unt.below · regs)) = rI := ⟨_, rfl⟩
 rw [hrD, hrA, hrB, hrI] at hr
 have HrD := Lib.hid hrD
 have HrA := Lib.hid hrA
 have HrB := Lib.hid hrB
 have HrI := Lib.hid hrI
 have HR := Lib.hid hr
 have HV := Lib.hid hv
 obtain ⟨hlen, hcap, hmax⟩ := hv.lens
 have HL := Lib.hid hlen
 clear hr hv hlen hrD hrA hrB hrI
 go_enter Tryz.func34, Tryz.ntmps34
 go_wp2_with fail
 refine (parts_19 _).mono ?_
 rintro e' w1 ⟨rfl, hb1⟩
 obtain ⟨bx, bp, bu, hb⟩ := three_boxes hb1
 have HB := Lib.hid hb
 have hs1 := bu.lt
 have z0 : w.heap.size < w1.heap.size := by omega
 have z1 : w.heap.size + 1 < w1.heap.size := by omega
 have x0 := bx.cell 0 rfl
 have x1 := bx.cell 1 rfl
 have x2 := bx.cell 2 rfl
 have x3 := bx.cell 3 rfl
 have x4 := bx.cell 4 rfl
 have p0 := bp.cell 0 rfl
 have p1 := bp.cell 1 rfl
 have p2 := bp.cell 2 rfl
 have p3 := bp.cell 3 rfl
 have u0 := bu.cell 0 rfl
 have u1 := bu.cell 1 rfl
 have HBP := Lib.hid bp
 have HKE := Lib.hid (Below.one w1 (.cells #[.bool false, .bool true, .bool false, .bool true, .bool false, .bool false] 89))
 have hp2 : ∀ X, (w1.alloc X).cell? ⟨w.heap.size + 1, 2, none⟩ = some (.int .i64 regs) := fun X => keepC (Below.one w1 X) p2
 have HP2 := Lib.hid hp2
 clear hb1 bx bp bu hb hp2
 go_wp2_with fail
 refine (reg_to false d regs rD HrD.out (w.heap.size + 1) _ (HP2.out _)).mono ?_
 rintro e' w' ⟨rfl, rfl⟩
 cases rD with
 | false =>
  obtain rfl : false = r := HR.out
  go_wp2_with fail
  go_ret
  exact ⟨rfl, HB.out.alloc (by omega) _⟩
 | true =>
  go_wp2_with fail
  refine (reg_to true a regs rA HrA.out (w.heap.size + 1) _ (HP2.out _)).mono ?_
  rintro e' w' ⟨rfl, rfl⟩
  cases rA with
  | false =>
   obtain rfl : false = r := HR.out
   go_wp2_with fail
   go_ret
   exact ⟨rfl, HB.out.alloc (by omega) _⟩
  | true =>
   go_wp2_with fail
   refine (reg_to false b regs rB HrB.out (w.heap.size + 1) _ (HP2.out _)).mono ?_
   rintro e' w' ⟨rfl, rfl⟩
   cases rB with
   | false =>
    obtain rfl : false = r := HR.out
    go_wp2_with fail
    go_ret
    exact ⟨rfl, HB.out.alloc (by omega) _⟩
   | true =>
    have HC := Lib.hid (fun X => containsG_int IntR 63 #[.pointer (some ⟨w.heap.size + 1, 0, none⟩)] (fun n => !Unt.below n regs) (!rI) l (.slice o len cap) B (w1.alloc X) (HV.out.kept ((HB.out.alloc (by omega) X).mono hB) fun _ _ _ h => h) (by simp; omega) (fun _ _ => rfl) (fun n _ c0 W hR hbW => by
      obtain ⟨hc0, _, _⟩ := hR
      obtain rfl : c0 = .int .i64 n := by simpa using hc0
      exact (regN_to n regs _ rfl (w.heap.size + 1) W (keepC hbW (HP2.out X))).mono fun e w' h => ⟨h.1, by rw [h.2]; exact Below.refl _ _⟩) (by rw [← HrI.out, ← List.not_all_eq_any_not]))
    go_wp2_with fail
    refine (HC.out _).mono ?_
    rintro e' w2 ⟨rfl, hb2⟩
    have HB2 := Lib.hid (Below.next (HB.out.alloc (by omega) _) hb2)
    have hs2 := hb2.size
    have y0 := keepC hb2 (keepC HKE.out x0)
    have y2 := keepC hb2 (keepC HKE.out x2)
    clear hb2 HC x0 x1 x2 x3 x4 p0 p1 p2 p3 u0 u1
    cases rI with
    | false =>
     obtain rfl : false = r := HR.out
     go_wp2_with fail
     go_ret
     exact ⟨rfl, HB2.out⟩
    | true =>
     obtain rfl : true = r := HR.out
     go_wp2_with fail
     go_ret
     exact ⟨rfl, HB2.out⟩
theorem fits_20 (d a b : Int) (l : List Int) (o : Option Addr) (len cap : Nat) (args regs : Int) (rest : Bool) (oc oa ok op : Option Addr) (lc cc la ca lk ck lp cp : Nat) (B : Nat) (w : World) (_ha : -9223372036854775808 ≤ a ∧ a ≤ 9223372036854775807) (hv : SlC w B 1 IntR l (.slice o len cap)) (hB : B ≤ w.heap.size) (r : Bool) (hr : Unt.fits ⟨20, d, a, b, l⟩ regs lc lp lk = r) :
  Calls Tryz.prog 34 #[.agg #[.int .i64 20, .int .i64 d, .int .i64 a, .int .i64 b, .slice o len cap], .agg #[.int .i64 args, .bool rest, .int .i64 regs, .slice oc lc cc, .slice oa la ca], .agg #[.slice ok lk ck, .slice op lp cp]] w fun e w' => e = .returned (.bool r) ∧ Below w.heap.size w w' := by
 have e : Unt.fits ⟨20, d, a, b, l⟩ regs lc lp lk = (Unt.regB false d regs && (Unt.regB true b regs && (l.all (Unt.below · regs) && (Unt.below a lp)))) := by
  rw [Unt.fits, show Unt.isOp 20 = true by decide, show Unt.pD 20 = false by decide, show Unt.pN 20 = true by decide, show Unt.pM 20 = false by decide, show Unt.pB 20 = true by decide, show Unt.pL 20 = true by decide, show Unt.tailOk ⟨20, d, a, b, l⟩ lc lp lk = Unt.below a lp by simp [Unt.tailOk]]
  simp only [Bool.true_and, Bool.true_or, Bool.false_or]
 rw [e] at hr
 clear e
 obtain ⟨rD, hrD⟩ : ∃ rD, (Unt.regB false d regs) = rD := ⟨_, rfl⟩
 obtain ⟨rB, hrB⟩ : ∃ rB, (Unt.regB true b regs) = rB := ⟨_, rfl⟩
 obtain ⟨rI, hrI⟩ : ∃ rI, (l.all (Unt.below · regs)) = rI := ⟨_, rfl⟩
 obtain ⟨rT, hrT⟩ : ∃ rT, (Unt.below a lp) = rT := ⟨_, rfl⟩
 rw [hrD, hrB, hrI, hrT] at hr
 have HrD := Lib.hid hrD
 have HrB := Lib.hid hrB
 have HrI := Lib.hid hrI
 have HrT := Lib.hid hrT
 have HR := Lib.hid hr
 have HV := Lib.hid hv
 obtain ⟨hlen, hcap, hmax⟩ := hv.lens
 have HL := Lib.hid hlen
 clear hr hv hlen hrD hrB hrI hrT
 go_enter Tryz.func34, Tryz.ntmps34
 go_wp2_with fail
 refine (parts_20 _).mono ?_
 rintro e' w1 ⟨rfl, hb1⟩
 obtain ⟨bx, bp, bu, hb⟩ := three_boxes hb1
 have HB := Lib.hid hb
 have hs1 := bu.lt
 have z0 : w.heap.size < w1.heap.size := by omega
 have z1 : w.heap.size + 1 < w1.heap.size := by omega
 have x0 := bx.cell 0 rfl
 have x1 := bx.cell 1 rfl
 have x2 := bx.cell 2 rfl
 have x3 := bx.cell 3 rfl
 have x4 := bx.cell 4 rfl
 have p0 := bp.cell 0 rfl
 have p1 := bp.cell 1 rfl
 have p2 := bp.cell 2 rfl
 have p3 := bp.cell 3 rfl
 have u0 := bu.cell 0 rfl
 have u1 := bu.cell 1 rfl
 have HBP := Lib.hid bp
 have HKE := Lib.hid (Below.one w1 (.cells #[.bool false, .bool false, .bool true, .bool true, .bool true, .bool false] 89))
 have hp2 : ∀ X, (w1.alloc X).cell? ⟨w.heap.size + 1, 2, none⟩ = some (.int .i64 regs) := fun X => keepC (Below.one w1 X) p2
 have HP2 := Lib.hid hp2
 clear hb1 bx bp bu hb hp2
 go_wp2_with fail
 refine (reg_to false d regs rD HrD.out (w.heap.size + 1) _ (HP2.out _)).mono ?_
 rintro e' w' ⟨rfl, rfl⟩
 cases rD with
 | false =>
  obtain rfl : false = r := HR.out
  go_wp2_with fail
  go_ret
  exact ⟨rfl, HB.out.alloc (by omega) _⟩
 | true =>
  go_wp2_with fail
  refine (reg_to true b regs rB HrB.out (w.heap.size + 1) _ (HP2.out _)).mono ?_
  rintro e' w' ⟨rfl, rfl⟩
  cases rB with
  | false =>
   obtain rfl : false = r := HR.out
   go_wp2_with fail
   go_ret
   exact ⟨rfl, HB.out.alloc (by omega) _⟩
  | true =>
   have HC := Lib.hid (fun X => containsG_int IntR 63 #[.pointer (some ⟨w.heap.size + 1, 0, none⟩)] (fun n => !Unt.below n regs) (!rI) l (.slice o len cap) B (w1.alloc X) (HV.out.kept ((HB.out.alloc (by omega) X).mono hB) fun _ _ _ h => h) (by simp; omega) (fun _ _ => rfl) (fun n _ c0 W hR hbW => by
     obtain ⟨hc0, _, _⟩ := hR
     obtain rfl : c0 = .int .i64 n := by simpa using hc0
     exact (regN_to n regs _ rfl (w.heap.size + 1) W (keepC hbW (HP2.out X))).mono fun e w' h => ⟨h.1, by rw [h.2]; exact Below.refl _ _⟩) (by rw [← HrI.out, ← List.not_all_eq_any_not]))
   go_wp2_with fail
   refine (HC.out _).mono ?_
   rintro e' w2 ⟨rfl, hb2⟩
   have HB2 := Lib.hid (Below.next (HB.out.alloc (by omega) _) hb2)
   have hs2 := hb2.size
   have y0 := keepC hb2 (keepC HKE.out x0)
   have y2 := keepC hb2 (keepC HKE.out x2)
   have v1 := keepC hb2 (keepC HKE.out u1)
   clear hb2 HC x0 x1 x2 x3 x4 p0 p1 p2 p3 u0 u1
   cases rI with
   | false =>
    obtain rfl : false = r := HR.out
    go_wp2_with fail
    go_ret
    exact ⟨rfl, HB2.out⟩
   | true =>
    obtain rfl : rT = r := HR.out
    go_wp2_with fail
    refine (below_to _ _ rT HrT.out _).mono ?_
    rintro e' w' ⟨rfl, rfl⟩
    go_wp2_with fail
    go_ret
    exact ⟨rfl, HB2.out⟩
theorem fits_21 (d a b : Int) (l : List Int) (o : Option Addr) (len cap : Nat) (args regs : Int) (rest : Bool) (oc oa ok op : Option Addr) (lc cc la ca lk ck lp cp : Nat) (B : Nat) (w : World) (_ha : -9223372036854775808 ≤ a ∧ a ≤ 9223372036854775807) (hv : SlC w B 1 IntR l (.slice o len cap)) (hB : B ≤ w.heap.size) (r : Bool) (hr : Unt.fits ⟨21, d, a, b, l⟩ regs lc lp lk = r) :
  Calls Tryz.prog 34 #[.agg #[.int .i64 21, .int .i64 d, .int .i64 a, .int .i64 b, .slice o len cap], .agg #[.int .i64 args, .bool rest, .int .i64 regs, .slice oc lc cc, .slice oa la ca], .agg #[.slice ok lk ck, .slice op lp cp]] w fun e w' => e = .returned (.bool r) ∧ Below w.heap.size w w' := by
 have e : Unt.fits ⟨21, d, a, b, l⟩ regs lc lp lk = (Unt.regB false d regs && (Unt.regB false b regs && (l.all (Unt.below · regs) && ((decide (a = 29) || decide (a = 30)))))) := by
  rw [Unt.fits, show Unt.isOp 21 = true by decide, show Unt.pD 21 = false by decide, show Unt.pN 21 = true by decide, show Unt.pM 21 = false by decide, show Unt.pB 21 = false by decide, show Unt.pL 21 = true by decide, show Unt.tailOk ⟨21, d, a, b, l⟩ lc lp lk = (decide (a = 29) || decide (a = 30)) by simp [Unt.tailOk]]
  simp only [Bool.true_and, Bool.true_or, Bool.false_or]
 rw [e] at hr
 clear e
 obtain ⟨rD, hrD⟩ : ∃ rD, (Unt.regB false d regs) = rD := ⟨_, rfl⟩
 obtain ⟨rB, hrB⟩ : ∃ rB, (Unt.regB false b regs) = rB := ⟨_, rfl⟩
 obtain ⟨rI, hrI⟩ : ∃ rI, (l.all (Unt.below · regs)) = rI := ⟨_, rfl⟩
 obtain ⟨rT, hrT⟩ : ∃ rT, ((decide (a = 29) || decide (a = 30))) = rT := ⟨_, rfl⟩
 rw [hrD, hrB, hrI, hrT] at hr
 have HrD := Lib.hid hrD
 have HrB := Lib.hid hrB
 have HrI := Lib.hid hrI
 have HrT := Lib.hid hrT
 have HR := Lib.hid hr
 have HV := Lib.hid hv
 obtain ⟨hlen, hcap, hmax⟩ := hv.lens
 have HL := Lib.hid hlen
 clear hr hv hlen hrD hrB hrI hrT
 go_enter Tryz.func34, Tryz.ntmps34
 go_wp2_with fail
 refine (parts_21 _).mono ?_
 rintro e' w1 ⟨rfl, hb1⟩
 obtain ⟨bx, bp, bu, hb⟩ := three_boxes hb1
 have HB := Lib.hid hb
 have hs1 := bu.lt
 have z0 : w.heap.size < w1.heap.size := by omega
 have z1 : w.heap.size + 1 < w1.heap.size := by omega
 have x0 := bx.cell 0 rfl
 have x1 := bx.cell 1 rfl
 have x2 := bx.cell 2 rfl
 have x3 := bx.cell 3 rfl
 have x4 := bx.cell 4 rfl
 have p0 := bp.cell 0 rfl
 have p1 := bp.cell 1 rfl
 have p2 := bp.cell 2 rfl
 have p3 := bp.cell 3 rfl
 have u0 := bu.cell 0 rfl
 have u1 := bu.cell 1 rfl
 have HBP := Lib.hid bp
 have HKE := Lib.hid (Below.one w1 (.cells #[.bool false, .bool false, .bool false, .bool true, .bool true, .bool false] 89))
 have hp2 : ∀ X, (w1.alloc X).cell? ⟨w.heap.size + 1, 2, none⟩ = some (.int .i64 regs) := fun X => keepC (Below.one w1 X) p2
 have HP2 := Lib.hid hp2
 clear hb1 bx bp bu hb hp2
 go_wp2_with fail
 refine (reg_to false d regs rD HrD.out (w.heap.size + 1) _ (HP2.out _)).mono ?_
 rintro e' w' ⟨rfl, rfl⟩
 cases rD with
 | false =>
  obtain rfl : false = r := HR.out
  go_wp2_with fail
  go_ret
  exact ⟨rfl, HB.out.alloc (by omega) _⟩
 | true =>
  go_wp2_with fail
  refine (reg_to false b regs rB HrB.out (w.heap.size + 1) _ (HP2.out _)).mono ?_
  rintro e' w' ⟨rfl, rfl⟩
  cases rB with
  | false =>
   obtain rfl : false = r := HR.out
   go_wp2_with fail
   go_ret
   exact ⟨rfl, HB.out.alloc (by omega) _⟩
  | true =>
   have HC := Lib.hid (fun X => containsG_int IntR 63 #[.pointer (some ⟨w.heap.size + 1, 0, none⟩)] (fun n => !Unt.below n regs) (!rI) l (.slice o len cap) B (w1.alloc X) (HV.out.kept ((HB.out.alloc (by omega) X).mono hB) fun _ _ _ h => h) (by simp; omega) (fun _ _ => rfl) (fun n _ c0 W hR hbW => by
     obtain ⟨hc0, _, _⟩ := hR
     obtain rfl : c0 = .int .i64 n := by simpa using hc0
     exact (regN_to n regs _ rfl (w.heap.size + 1) W (keepC hbW (HP2.out X))).mono fun e w' h => ⟨h.1, by rw [h.2]; exact Below.refl _ _⟩) (by rw [← HrI.out, ← List.not_all_eq_any_not]))
   go_wp2_with fail
   refine (HC.out _).mono ?_
   rintro e' w2 ⟨rfl, hb2⟩
   have HB2 := Lib.hid (Below.next (HB.out.alloc (by omega) _) hb2)
   have hs2 := hb2.size
   have y0 := keepC hb2 (keepC HKE.out x0)
   have y2 := keepC hb2 (keepC HKE.out x2)
   clear hb2 HC x0 x1 x2 x3 x4 p0 p1 p2 p3 u0 u1
   cases rI with
   | false =>
    obtain rfl : false = r := HR.out
    go_wp2_with fail
    go_ret
    exact ⟨rfl, HB2.out⟩
   | true =>
    by_cases h29 : a = 29
    ·subst h29
     obtain rfl : true = r := by rw [← HR.out, ← HrT.out]; rfl
     go_wp2_with fail
     go_ret
     exact ⟨rfl, HB2.out⟩
    ·have h29' : (a == 29) = false := by simpa using h29
     by_cases h30 : a = 30
     ·subst h30
      obtain rfl : true = r := by rw [← HR.out, ← HrT.out]; rfl
      go_wp2_with fail
      go_ret
      exact ⟨rfl, HB2.out⟩
     ·have h30' : (a == 30) = false := by simpa using h30
      obtain rfl : false = r := by rw [← HR.out, ← HrT.out]; simp [h29, h30]
      go_wp2_with fail
      go_ret
      exact ⟨rfl, HB2.out⟩
theorem fits_22 (d a b : Int) (l : List Int) (o : Option Addr) (len cap : Nat) (args regs : Int) (rest : Bool) (oc oa ok op : Option Addr) (lc cc la ca lk ck lp cp : Nat) (B : Nat) (w : World) (_ha : -9223372036854775808 ≤ a ∧ a ≤ 9223372036854775807) (hv : SlC w B 1 IntR l (.slice o len cap)) (hB : B ≤ w.heap.size) (r : Bool) (hr : Unt.fits ⟨22, d, a, b, l⟩ regs lc lp lk = r) :
  Calls Tryz.prog 34 #[.agg #[.int .i64 22, .int .i64 d, .int .i64 a, .int .i64 b, .slice o len cap], .agg #[.int .i64 args, .bool rest, .int .i64 regs, .slice oc lc cc, .slice oa la ca], .agg #[.slice ok lk ck, .slice op lp cp]] w fun e w' => e = .returned (.bool r) ∧ Below w.heap.size w w' := by
 have e : Unt.fits ⟨22, d, a, b, l⟩ regs lc lp lk = (Unt.regB false d regs && (Unt.regB true a regs && (Unt.regB false b regs && (decide (l.length ≤ 0) && (l.all (Unt.below · regs)))))) := by
  rw [Unt.fits, show Unt.isOp 22 = true by decide, show Unt.pD 22 = false by decide, show Unt.pN 22 = false by decide, show Unt.pA 22 = true by decide, show Unt.pM 22 = false by decide, show Unt.pB 22 = false by decide, show Unt.pL 22 = false by decide, show Unt.tailOk ⟨22, d, a, b, l⟩ lc lp lk = true by simp [Unt.tailOk]]
  simp only [Bool.true_and, Bool.and_true, Bool.false_or]
 rw [e] at hr
 clear e
 obtain ⟨rD, hrD⟩ : ∃ rD, (Unt.regB false d regs) = rD := ⟨_, rfl⟩
 obtain ⟨rA, hrA⟩ : ∃ rA, (Unt.regB true a regs) = rA := ⟨_, rfl⟩
 obtain ⟨rB, hrB⟩ : ∃ rB, (Unt.regB false b regs) = rB := ⟨_, rfl⟩
 obtain ⟨rL, hrL⟩ : ∃ rL, (decide (l.length ≤ 0)) = rL := ⟨_, rfl⟩
 obtain ⟨rI, hrI⟩ : ∃ rI, (l.all (Unt.below · regs)) = rI := ⟨_, rfl⟩
 rw [hrD, hrA, hrB, hrL, hrI] at hr
 have HrD := Lib.hid hrD
 have HrA := Lib.hid hrA
 have HrB := Lib.hid hrB
 have HrL := Lib.hid hrL
 have HrI := Lib.hid hrI
 have HR := Lib.hid hr
 have HV := Lib.hid hv
 obtain ⟨hlen, hcap, hmax⟩ := hv.lens
 have HL := Lib.hid hlen
 clear hr hv hlen hrD hrA hrB hrL hrI
 go_enter Tryz.func34, Tryz.ntmps34
 go_wp2_with fail
 refine (parts_22 _).mono ?_
 rintro e' w1 ⟨rfl, hb1⟩
 obtain ⟨bx, bp, bu, hb⟩ := three_boxes hb1
 have HB := Lib.hid hb
 have hs1 := bu.lt
 have z0 : w.heap.size < w1.heap.size := by omega
 have z1 : w.heap.size + 1 < w1.heap.size := by omega
 have x0 := bx.cell 0 rfl
 have x1 := bx.cell 1 rfl
 have x2 := bx.cell 2 rfl
 have x3 := bx.cell 3 rfl
 have x4 := bx.cell 4 rfl
 have p0 := bp.cell 0 rfl
 have p1 := bp.cell 1 rfl
 have p2 := bp.cell 2 rfl
 have p3 := bp.cell 3 rfl
 have u0 := bu.cell 0 rfl
 have u1 := bu.cell 1 rfl
 have HBP := Lib.hid bp
 have HKE := Lib.hid (Below.one w1 (.cells #[.bool false, .bool true, .bool false, .bool false, .bool false, .bool false] 89))
 have hp2 : ∀ X, (w1.alloc X).cell? ⟨w.heap.size + 1, 2, none⟩ = some (.int .i64 regs) := fun X => keepC (Below.one w1 X) p2
 have HP2 := Lib.hid hp2
 clear hb1 bx bp bu hb hp2
 go_wp2_with fail
 refine (reg_to false d regs rD HrD.out (w.heap.size + 1) _ (HP2.out _)).mono ?_
 rintro e' w' ⟨rfl, rfl⟩
 cases rD with
 | false =>
  obtain rfl : false = r := HR.out
  go_wp2_with fail
  go_ret
  exact ⟨rfl, HB.out.alloc (by omega) _⟩
 | true =>
  go_wp2_with fail
  refine (reg_to true a regs rA HrA.out (w.heap.size + 1) _ (HP2.out _)).mono ?_
  rintro e' w' ⟨rfl, rfl⟩
  cases rA with
  | false =>
   obtain rfl : false = r := HR.out
   go_wp2_with fail
   go_ret
   exact ⟨rfl, HB.out.alloc (by omega) _⟩
  | true =>
   go_wp2_with fail
   refine (reg_to false b regs rB HrB.out (w.heap.size + 1) _ (HP2.out _)).mono ?_
   rintro e' w' ⟨rfl, rfl⟩
   cases rB with
   | false =>
    obtain rfl : false = r := HR.out
    go_wp2_with fail
    go_ret
    exact ⟨rfl, HB.out.alloc (by omega) _⟩
   | true =>
    cases rL with
    | false =>
     have hpos : 0 < len := by have h1 := of_decide_eq_false HrL.out; have h2 := HL.out; omega
     obtain rfl : false = r := HR.out
     go_wp2_with fail
     go_ret
     exact ⟨rfl, HB.out.alloc (by omega) _⟩
    | true =>
     have hzero : len = 0 := by have h1 := of_decide_eq_true HrL.out; have h2 := HL.out; omega
     have hz2 : ¬ 0 < len := by omega
     clear hzero
     have HC := Lib.hid (fun X => containsG_int IntR 63 #[.pointer (some ⟨w.heap.size + 1, 0, none⟩)] (fun n => !Unt.below n regs) (!rI) l (.slice o len cap) B (w1.alloc X) (HV.out.kept ((HB.out.alloc (by omega) X).mono hB) fun _ _ _ h => h) (by simp; omega) (fun _ _ => rfl) (fun n _ c0 W hR hbW => by
       obtain ⟨hc0, _, _⟩ := hR
       obtain rfl : c0 = .int .i64 n := by simpa using hc0
       exact (regN_to n regs _ rfl (w.heap.size + 1) W (keepC hbW (HP2.out X))).mono fun e w' h => ⟨h.1, by rw [h.2]; exact Below.refl _ _⟩) (by rw [← HrI.out, ← List.not_all_eq_any_not]))
     go_wp2_with fail
     refine (HC.out _).mono ?_
     rintro e' w2 ⟨rfl, hb2⟩
     have HB2 := Lib.hid (Below.next (HB.out.alloc (by omega) _) hb2)
     have hs2 := hb2.size
     have y0 := keepC hb2 (keepC HKE.out x0)
     have y2 := keepC hb2 (keepC HKE.out x2)
     clear hb2 HC x0 x1 x2 x3 x4 p0 p1 p2 p3 u0 u1
     cases rI with
     | false =>
      obtain rfl : false = r := HR.out
      go_wp2_with fail
      go_ret
      exact ⟨rfl, HB2.out⟩
     | true =>
      obtain rfl : true = r := HR.out
      go_wp2_with fail
      go_ret
      exact ⟨rfl, HB2.out⟩
theorem fits_no (k : Int) (hk : k < 0 ∨ 22 < k) (d a b : Int) (l : List Int) (o : Option Addr) (len cap : Nat) (args regs : Int) (rest : Bool) (oc oa ok op : Option Addr) (lc cc la ca lk ck lp cp : Nat) (B : Nat) (w : World) (_ha : -9223372036854775808 ≤ a ∧ a ≤ 9223372036854775807) (_hv : SlC w B 1 IntR l (.slice o len cap)) (_hB : B ≤ w.heap.size) (r : Bool) (hr : Unt.fits ⟨k, d, a, b, l⟩ regs lc lp lk = r) :
  Calls Tryz.prog 34 #[.agg #[.int .i64 k, .int .i64 d, .int .i64 a, .int .i64 b, .slice o len cap], .agg #[.int .i64 args, .bool rest, .int .i64 regs, .slice oc lc cc, .slice oa la ca], .agg #[.slice ok lk ck, .slice op lp cp]] w fun e w' => e = .returned (.bool r) ∧ Below w.heap.size w w' := by
 obtain rfl : false = r := by
  rw [← hr, Unt.fits, show Unt.isOp k = false from by simp [Unt.isOp]; omega]; rfl
 have HK := Lib.hid hk
 clear hr hk
 go_enter Tryz.func34, Tryz.ntmps34
 go_wp2_with fail
 refine (parts_no k HK.out _).mono ?_
 rintro e' w1 ⟨rfl, hb1⟩
 obtain ⟨bx, bp, bu, hb⟩ := three_boxes hb1
 have HB := Lib.hid hb
 have hs1 := bu.lt
 clear hb1 bx bp bu hb
 go_wp2_with fail
 go_ret
 exact ⟨rfl, HB.out.alloc (by omega) _⟩
end
section
open Go.RowKit
theorem few18_any (u : Unt) (v : Value) (n : Int) (B : Nat) (w : World) (hv : UntR w B u v) (hB : B ≤ w.heap.size) (h0 : 0 ≤ n) (h1 : n ≤ 1000) (r : Bool) (hr : Unt.fewB u n (10 * n) = r) :
  Calls Tryz.prog 26 #[v, .int .i64 n] w fun e w' => e = .returned (.bool r) ∧ Below w.heap.size w w' := by
 obtain ⟨cv, pv, rfl, hc, hp⟩ := hv
 obtain ⟨op, np, cp, rfl, hnp, hcapp, hmaxp⟩ := hp.slice
 have HCS := Lib.hid hc
 obtain ⟨ok, nk, ck, rfl, hnk, hcapk, hmaxk, hcc⟩ := hc
 have HP := Lib.hid hp
 have HNP := Lib.hid hnp
 clear hcc hp hnk
 by_cases c1 : 30 < np
 ·obtain rfl : false = r := by rw [← hr, Unt.fewB, ← HNP.out, decide_eq_true (show (30 : Int) < np by omega)]; rfl
  have d1 : decide ((30 : Int) < (np : Int)) = true := decide_eq_true (by omega)
  clear hr hnp
  go_enter Tryz.func26, Tryz.ntmps26
  go_wp2_with fail
  all_goals go_ret
  all_goals exact ⟨rfl, Below.one _ _⟩
 have d1 : decide ((30 : Int) < (np : Int)) = false := decide_eq_false (by omega)
 obtain ⟨q, hq⟩ : ∃ q, decide ((Dat.allL u.consts : Int) ≤ 2000) = q := ⟨_, rfl⟩
 have HR := Lib.hid (show (q && Unt.fewP n (10 * n) u.procs 0) = r from by rw [← hr, Unt.fewB, ← HNP.out, d1, hq]; rfl)
 have HC := Lib.hid (fun X => rfewAll_to u.consts (.slice ok nk ck) 2000 B (w.alloc X) (HCS.out.kept ((Below.one w X).mono hB)) (by simp; omega) (by omega) (by omega) q hq)
 have HB0 := Lib.hid (Below.refl (w.heap.size + 1) (w.alloc (.cells #[.slice ok nk ck, .slice op np cp] 25)))
 clear hr hq hnp
 go_enter Tryz.func26, Tryz.ntmps26
 go_wp2_with fail
 refine (HC.out _).mono ?_
 rintro e w1 ⟨rfl, hb1⟩
 have HB1 := Lib.hid (one_below hb1)
 have bu1 : BoxL w1 w.heap.size 25 [.slice ok nk ck, .slice op np cp] := (BoxL.new rfl _ _).keep hb1
 have u1 := bu1.cell 1 rfl
 have hlt1 := bu1.lt
 clear hb1 HC bu1 HB0
 cases q with
 | false =>
  obtain rfl : r = false := by rw [← HR.out]; rfl
  go_wp2_with fail
  all_goals go_ret
  all_goals exact ⟨rfl, HB1.out⟩
 | true =>
  have HF := Lib.hid (show Unt.fewP n (10 * n) u.procs 0 = r from by rw [← HR.out]; rfl)
  go_wp2_with fail
  go_loopg [5, 6] np (fun g a i wr => ∃ (j : Nat) (k : Int), g = np - j ∧ j ≤ np ∧ a = .int .i64 k ∧ i = .int .i64 j ∧ 0 ≤ k ∧ k ≤ n ∧ Hid (Unt.fewP n (10 * n) u.procs 0 = Unt.fewP n (10 * n) (u.procs.drop j) k) ∧ w1 = wr)
  case atStart => exact ⟨0, 0, rfl, by omega, rfl, rfl, by omega, by omega, rfl, rfl⟩
  case round =>
   obtain ⟨j, k, rfl, hj, rfl, rfl, hk0, hk1, HS, rfl⟩ := hrel
   by_cases hjl : j < np
   ·obtain ⟨p, hx⟩ : ∃ p, u.procs[j]? = some p := ⟨_, List.getElem?_eq_getElem (by rw [← HNP.out]; exact hjl)⟩
    obtain ⟨b1, off1, cs, ho1, hbB, hcl, hcell, hpr⟩ := HP.out.at (HB1.out.mono hB) hx
    subst ho1
    have HST := Lib.hid (fewP_step (n := n) (rg := 10 * n) (k := k) hx)
    obtain ⟨args, rest, regs, code, alive⟩ := p
    obtain ⟨sl, al, rfl, hbargs, hbregs, hcode, halive⟩ := hpr
    obtain ⟨oc, m, cc, rfl⟩ := hcode.form
    obtain ⟨hm, hcapc, hmaxc⟩ := hcode.lens
    obtain ⟨oa, la, ca, rfl⟩ := halive.form
    dsimp only at hm hbregs HST hcode
    have e2 := hcell 2 _ rfl
    have e3 := hcell 3 _ rfl
    have HM := Lib.hid (show (code.length : Int) = m from by rw [hm])
    have HMN := Lib.hid hm
    have HCODE := Lib.hid hcode
    rw [HM.out] at HST
    clear hx hcell hcl hcode halive hm hbargs
    by_cases a1 : n < (m : Int)
    ·have f1 : decide (n < (m : Int)) = true := decide_eq_true a1
     obtain rfl : r = false := by rw [← HF.out, HS.out, HST.out]; simp [a1]
     go_wp2_with fail
     all_goals go_ret
     all_goals exact ⟨rfl, HB1.out⟩
    have f1 : decide (n < (m : Int)) = false := decide_eq_false a1
    by_cases a2 : 10 * n < regs
    ·have f2 : decide (10 * n < regs) = true := decide_eq_true a2
     obtain rfl : r = false := by rw [← HF.out, HS.out, HST.out]; simp [a2]
     go_wp2_with fail
     all_goals go_ret
     all_goals exact ⟨rfl, HB1.out⟩
    have f2 : decide (10 * n < regs) = false := decide_eq_false a2
    have hm1000 : m ≤ 1000 := by omega
    go_wp2_with fail
    go_loopg [7] m (fun g i wr => ∃ q : Nat, g = m - q ∧ q ≤ m ∧ i = .int .i64 q ∧ Hid ((code.take q).all (fun x => decide (x.l.length ≤ 60)) = true) ∧ w1 = wr)
    case atStart => exact ⟨0, rfl, by omega, rfl, rfl, rfl⟩
    case round =>
     obtain ⟨q, rfl, hq, rfl, HA, rfl⟩ := hrel
     by_cases hql : q < m
     ·obtain ⟨x, hx⟩ : ∃ x, code[q]? = some x := ⟨_, List.getElem?_eq_getElem (by rw [← HMN.out]; exact hql)⟩
      obtain ⟨b2, off2, ds, ho2, hb2B, hdl, hdcell, hins⟩ := HCODE.out.at (HB1.out.mono hB) hx
      subst ho2
      obtain ⟨sl, rfl, _, _, _, _, hsl⟩ := hins
      obtain ⟨o4, l4, c4, rfl⟩ := hsl.form
      have g4 := hdcell 4 _ rfl
      have HL4 := Lib.hid hsl.lens.1
      have HX := Lib.hid hx
      clear hx hdcell hdl hsl
      by_cases a3 : 60 < l4
      ·have f3 : decide ((60 : Int) < (l4 : Int)) = true := decide_eq_true (by omega)
       obtain rfl : r = false := by
        have h3 : code.all (fun x => decide (x.l.length ≤ 60)) = false := by
         rw [List.all_eq_false]
         exact ⟨x, List.mem_of_getElem? HX.out, by have := HL4.out; simp; omega⟩
        rw [← HF.out, HS.out, HST.out, h3]; simp
       go_wp2_with fail
       all_goals go_ret
       all_goals exact ⟨rfl, HB1.out⟩
      ·have f3 : decide ((60 : Int) < (l4 : Int)) = false := decide_eq_false (by omega)
       have HA2 := Lib.hid (show (code.take (q + 1)).all (fun x => decide (x.l.length ≤ 60)) = true from by
        rw [List.take_add_one, HX.out]
        have := HL4.out
        simp [List.all_append, HA.out]; omega)
       go_wp2_with fail
       go_roundg (m - (q + 1))
       case measure => omega
       case rel => exact ⟨q + 1, rfl, by omega, by go_num, HA2, rfl⟩
     ·obtain rfl : q = m := by omega
      have HAL := Lib.hid (show code.all (fun x => decide (x.l.length ≤ 60)) = true from by rw [← HA.out, List.take_of_length_le (by rw [← HMN.out]; exact Nat.le_refl _)])
      by_cases a4 : n < k + q
      ·have f4 : decide (n < k + (q : Int)) = true := decide_eq_true a4
       obtain rfl : r = false := by rw [← HF.out, HS.out, HST.out]; simp [a4]
       go_wp2_with fail
       all_goals go_ret
       all_goals exact ⟨rfl, HB1.out⟩
      ·have f4 : decide (n < k + (q : Int)) = false := decide_eq_false a4
       have HS2 := Lib.hid (show Unt.fewP n (10 * n) u.procs 0 = Unt.fewP n (10 * n) (u.procs.drop (j + 1)) (k + q) from by rw [HS.out, HST.out, HAL.out, f1, f2, f4]; rfl)
       go_wp2_with fail
       go_roundg (np - (j + 1))
       case measure => omega
       case rel => exact ⟨j + 1, k + q, rfl, by omega, rfl, by go_num, by omega, by omega, HS2, rfl⟩
   ·obtain rfl : j = np := by omega
    obtain rfl : r = true := by rw [← HF.out, HS.out, List.drop_eq_nil_of_le (by rw [← HNP.out]; exact Nat.le_refl _)]; rfl
    go_wp2_with fail
    all_goals go_ret
    all_goals exact ⟨rfl, HB1.out⟩
end
section
open Go Go.RowKit Go.Deep Go.ChangeShapes Go.WideShapes Go.ChangeAt
structure Cod where
 v : List Int
 rest : Bool
 body : Trm
structure Mdl where
 consts : List Dat
 codes : List Cod
 body : Trm
def CodR (w : World) (B : Nat) (c : Cod) (cs : List Value) : Prop := ∃ vs b0 b1 b2 b3, cs = [vs, .bool c.rest, b0, b1, b2, b3] ∧ SlC w B 1 IntR c.v vs ∧ TrmR w B c.body [b0, b1, b2, b3]
def MdlR (w : World) (B : Nat) (m : Mdl) (v : Value) : Prop := ∃ c p b0 b1 b2 b3, v = .agg #[c, p, b0, b1, b2, b3] ∧ RepS w B m.consts c ∧ SlC w B 6 (CodR w B) m.codes p ∧ TrmR w B m.body [b0, b1, b2, b3]
theorem CodR.kept {w w' : World} {B : Nat} {c : Cod} {cs : List Value} (h : CodR w B c cs) (hb : Below B w w') : CodR w' B c cs := by
 obtain ⟨vs, b0, b1, b2, b3, rfl, h1, h2⟩ := h
 exact ⟨vs, b0, b1, b2, b3, rfl, h1.kept hb fun _ _ _ h => h, TrmR.kept hb _ _ h2⟩
theorem MdlR.kept {w w' : World} {B : Nat} {m : Mdl} {v : Value} (h : MdlR w B m v) (hb : Below B w w') : MdlR w' B m v := by
 obtain ⟨c, p, b0, b1, b2, b3, rfl, h1, h2, h3⟩ := h
 exact ⟨c, p, b0, b1, b2, b3, rfl, h1.kept hb, h2.kept hb fun _ _ _ h => CodR.kept h hb, TrmR.kept hb _ _ h3⟩
section
variable {H : Type} {enc : TypeId × Value → H}
end
end
end Go.Proofs.YtigkhmppnnljiaaGreatDoor

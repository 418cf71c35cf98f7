/-
  What the proofs lean on: Fits2.
-/
import Derived.Test.YtigkhmppnnljiaaGreatDoorPreA13
set_option maxRecDepth 100000
set_option maxHeartbeats 16000000
namespace Go.Proofs.YtigkhmppnnljiaaGreatDoor
section
open Go.RowKit
theorem fits_8 (d a b : Int) (l : List Int) (o : Option Addr) (len cap : Nat) (args regs : Int) (rest : Bool) (oc oa ok op : Option Addr) (lc cc la ca lk ck lp cp : Nat) (B : Nat) (w : World) (_ha : -9223372036854775808 ≤ a ∧ a ≤ 9223372036854775807) (hv : SlC w B 1 IntR l (.slice o len cap)) (hB : B ≤ w.heap.size) (r : Bool) (hr : Unt.fits ⟨8, d, a, b, l⟩ regs lc lp lk = r) :
  Calls Tryz.prog 34 #[.agg #[.int .i64 8, .int .i64 d, .int .i64 a, .int .i64 b, .slice o len cap], .agg #[.int .i64 args, .bool rest, .int .i64 regs, .slice oc lc cc, .slice oa la ca], .agg #[.slice ok lk ck, .slice op lp cp]] w fun e w' => e = .returned (.bool r) ∧ Below w.heap.size w w' := by
 have e : Unt.fits ⟨8, d, a, b, l⟩ regs lc lp lk = (Unt.regB false d regs && (Unt.regB true a regs && (Unt.regB false b regs && (l.all (Unt.below · regs))))) := by
  rw [Unt.fits, show Unt.isOp 8 = true by decide, show Unt.pD 8 = false by decide, show Unt.pN 8 = false by decide, show Unt.pA 8 = true by decide, show Unt.pM 8 = false by decide, show Unt.pB 8 = false by decide, show Unt.pL 8 = true by decide, show Unt.tailOk ⟨8, d, a, b, l⟩ lc lp lk = true by simp [Unt.tailOk]]
  simp only [Bool.true_and, Bool.and_true, Bool.true_or, Bool.false_or]
 rw [e] at hr
 clear e
 obtain ⟨rD, hrD⟩ : ∃ rD, (Unt.regB false d regs) = rD := ⟨_, rfl⟩
 obtain ⟨rA, hrA⟩ : ∃ rA, (Unt.regB true a regs) = rA := ⟨_, rfl⟩
 obtain ⟨rB, hrB⟩ : ∃ rB, (Unt.regB false b regs) = rB := ⟨_, rfl⟩
 obtain ⟨rI, hrI⟩ : ∃ rI, (l.all (Unt.below · regs)) = rI := ⟨_, rfl⟩
 rw [hrD, hrA, hrB, hrI] at hr
 have HrD := Lib.hid hrD
 have HrA := Lib.hid hrA
 have HrB := Lib.hid hrB
 have HrI := Lib.hid hrI
 have HR := Lib.hid hr
 have HV := Lib.hid hv
 obtain ⟨hlen, hcap, hmax⟩ := hv.lens
 have HL := Lib.hid hlen
 clear hr hv hlen hrD hrA hrB hrI
 go_enter Tryz.func34, Tryz.ntmps34
 go_wp2_with fail
 refine (parts_8 _).mono ?_
 rintro e' w1 ⟨rfl, hb1⟩
 obtain ⟨bx, bp, bu, hb⟩ := three_boxes hb1
 have HB := Lib.hid hb
 have hs1 := bu.lt
 have z0 : w.heap.size < w1.heap.size := by omega
 have z1 : w.heap.size + 1 < w1.heap.size := by omega
 have x0 := bx.cell 0 rfl
 have x1 := bx.cell 1 rfl
 have x2 := bx.cell 2 rfl
 have x3 := bx.cell 3 rfl
 have x4 := bx.cell 4 rfl
 have p0 := bp.cell 0 rfl
 have p1 := bp.cell 1 rfl
 have p2 := bp.cell 2 rfl
 have p3 := bp.cell 3 rfl
 have u0 := bu.cell 0 rfl
 have u1 := bu.cell 1 rfl
 have HBP := Lib.hid bp
 have HKE := Lib.hid (Below.one w1 (.cells #[.bool false, .bool true, .bool false, .bool true, .bool false, .bool false] 89))
 have hp2 : ∀ X, (w1.alloc X).cell? ⟨w.heap.size + 1, 2, none⟩ = some (.int .i64 regs) := fun X => keepC (Below.one w1 X) p2
 have HP2 := Lib.hid hp2
 clear hb1 bx bp bu hb hp2
 go_wp2_with fail
 refine (reg_to false d regs rD HrD.out (w.heap.size + 1) _ (HP2.out _)).mono ?_
 rintro e' w' ⟨rfl, rfl⟩
 cases rD with
 | false =>
  obtain rfl : false = r := HR.out
  go_wp2_with fail
  go_ret
  exact ⟨rfl, HB.out.alloc (by omega) _⟩
 | true =>
  go_wp2_with fail
  refine (reg_to true a regs rA HrA.out (w.heap.size + 1) _ (HP2.out _)).mono ?_
  rintro e' w' ⟨rfl, rfl⟩
  cases rA with
  | false =>
   obtain rfl : false = r := HR.out
   go_wp2_with fail
   go_ret
   exact ⟨rfl, HB.out.alloc (by omega) _⟩
  | true =>
   go_wp2_with fail
   refine (reg_to false b regs rB HrB.out (w.heap.size + 1) _ (HP2.out _)).mono ?_
   rintro e' w' ⟨rfl, rfl⟩
   cases rB with
   | false =>
    obtain rfl : false = r := HR.out
    go_wp2_with fail
    go_ret
    exact ⟨rfl, HB.out.alloc (by omega) _⟩
   | true =>
    have HC := Lib.hid (fun X => containsG_int IntR 63 #[.pointer (some ⟨w.heap.size + 1, 0, none⟩)] (fun n => !Unt.below n regs) (!rI) l (.slice o len cap) B (w1.alloc X) (HV.out.kept ((HB.out.alloc (by omega) X).mono hB) fun _ _ _ h => h) (by simp; omega) (fun _ _ => rfl) (fun n _ c0 W hR hbW => by
      obtain ⟨hc0, _, _⟩ := hR
      obtain rfl : c0 = .int .i64 n := by simpa using hc0
      exact (regN_to n regs _ rfl (w.heap.size + 1) W (keepC hbW (HP2.out X))).mono fun e w' h => ⟨h.1, by rw [h.2]; exact Below.refl _ _⟩) (by rw [← HrI.out, ← List.not_all_eq_any_not]))
    go_wp2_with fail
    refine (HC.out _).mono ?_
    rintro e' w2 ⟨rfl, hb2⟩
    have HB2 := Lib.hid (Below.next (HB.out.alloc (by omega) _) hb2)
    have hs2 := hb2.size
    have y0 := keepC hb2 (keepC HKE.out x0)
    have y2 := keepC hb2 (keepC HKE.out x2)
    clear hb2 HC x0 x1 x2 x3 x4 p0 p1 p2 p3 u0 u1
    cases rI with
    | false =>
     obtain rfl : false = r := HR.out
     go_wp2_with fail
     go_ret
     exact ⟨rfl, HB2.out⟩
    | true =>
     obtain rfl : true = r := HR.out
     go_wp2_with fail
     go_ret
     exact ⟨rfl, HB2.out⟩
theorem fits_9 (d a b : Int) (l : List Int) (o : Option Addr) (len cap : Nat) (args regs : Int) (rest : Bool) (oc oa ok op : Option Addr) (lc cc la ca lk ck lp cp : Nat) (B : Nat) (w : World) (ha : -9223372036854775808 ≤ a ∧ a ≤ 9223372036854775807) (hv : SlC w B 1 IntR l (.slice o len cap)) (hB : B ≤ w.heap.size) (r : Bool) (hr : Unt.fits ⟨9, d, a, b, l⟩ regs lc lp lk = r) :
  Calls Tryz.prog 34 #[.agg #[.int .i64 9, .int .i64 d, .int .i64 a, .int .i64 b, .slice o len cap], .agg #[.int .i64 args, .bool rest, .int .i64 regs, .slice oc lc cc, .slice oa la ca], .agg #[.slice ok lk ck, .slice op lp cp]] w fun e w' => e = .returned (.bool r) ∧ Below w.heap.size w w' := by
 have e : Unt.fits ⟨9, d, a, b, l⟩ regs lc lp lk = (Unt.regB true d regs && (Unt.regB false b regs && (l.all (Unt.below · regs) && (Unt.below a 31)))) := by
  rw [Unt.fits, show Unt.isOp 9 = true by decide, show Unt.pD 9 = true by decide, show Unt.pN 9 = true by decide, show Unt.pM 9 = false by decide, show Unt.pB 9 = false by decide, show Unt.pL 9 = true by decide, show Unt.tailOk ⟨9, d, a, b, l⟩ lc lp lk = Unt.below a 31 by simp [Unt.tailOk]]
  simp only [Bool.true_and, Bool.true_or, Bool.false_or]
 rw [e] at hr
 clear e
 obtain ⟨rD, hrD⟩ : ∃ rD, (Unt.regB true d regs) = rD := ⟨_, rfl⟩
 obtain ⟨rB, hrB⟩ : ∃ rB, (Unt.regB false b regs) = rB := ⟨_, rfl⟩
 obtain ⟨rI, hrI⟩ : ∃ rI, (l.all (Unt.below · regs)) = rI := ⟨_, rfl⟩
 obtain ⟨rT, hrT⟩ : ∃ rT, (Unt.below a 31) = rT := ⟨_, rfl⟩
 rw [hrD, hrB, hrI, hrT] at hr
 have HrD := Lib.hid hrD
 have HrB := Lib.hid hrB
 have HrI := Lib.hid hrI
 have HrT := Lib.hid hrT
 have HR := Lib.hid hr
 have HV := Lib.hid hv
 obtain ⟨hlen, hcap, hmax⟩ := hv.lens
 have HL := Lib.hid hlen
 clear hr hv hlen hrD hrB hrI hrT
 go_enter Tryz.func34, Tryz.ntmps34
 go_wp2_with fail
 refine (parts_9 _).mono ?_
 rintro e' w1 ⟨rfl, hb1⟩
 obtain ⟨bx, bp, bu, hb⟩ := three_boxes hb1
 have HB := Lib.hid hb
 have hs1 := bu.lt
 have z0 : w.heap.size < w1.heap.size := by omega
 have z1 : w.heap.size + 1 < w1.heap.size := by omega
 have x0 := bx.cell 0 rfl
 have x1 := bx.cell 1 rfl
 have x2 := bx.cell 2 rfl
 have x3 := bx.cell 3 rfl
 have x4 := bx.cell 4 rfl
 have p0 := bp.cell 0 rfl
 have p1 := bp.cell 1 rfl
 have p2 := bp.cell 2 rfl
 have p3 := bp.cell 3 rfl
 have u0 := bu.cell 0 rfl
 have u1 := bu.cell 1 rfl
 have HBP := Lib.hid bp
 have HKE := Lib.hid (Below.one w1 (.cells #[.bool true, .bool false, .bool false, .bool true, .bool true, .bool false] 89))
 have hp2 : ∀ X, (w1.alloc X).cell? ⟨w.heap.size + 1, 2, none⟩ = some (.int .i64 regs) := fun X => keepC (Below.one w1 X) p2
 have HP2 := Lib.hid hp2
 clear hb1 bx bp bu hb hp2
 go_wp2_with fail
 refine (reg_to true d regs rD HrD.out (w.heap.size + 1) _ (HP2.out _)).mono ?_
 rintro e' w' ⟨rfl, rfl⟩
 cases rD with
 | false =>
  obtain rfl : false = r := HR.out
  go_wp2_with fail
  go_ret
  exact ⟨rfl, HB.out.alloc (by omega) _⟩
 | true =>
  go_wp2_with fail
  refine (reg_to false b regs rB HrB.out (w.heap.size + 1) _ (HP2.out _)).mono ?_
  rintro e' w' ⟨rfl, rfl⟩
  cases rB with
  | false =>
   obtain rfl : false = r := HR.out
   go_wp2_with fail
   go_ret
   exact ⟨rfl, HB.out.alloc (by omega) _⟩
  | true =>
   have HC := Lib.hid (fun X => containsG_int IntR 63 #[.pointer (some ⟨w.heap.size + 1, 0, none⟩)] (fun n => !Unt.below n regs) (!rI) l (.slice o len cap) B (w1.alloc X) (HV.out.kept ((HB.out.alloc (by omega) X).mono hB) fun _ _ _ h => h) (by simp; omega) (fun _ _ => rfl) (fun n _ c0 W hR hbW => by
     obtain ⟨hc0, _, _⟩ := hR
     obtain rfl : c0 = .int .i64 n := by simpa using hc0
     exact (regN_to n regs _ rfl (w.heap.size + 1) W (keepC hbW (HP2.out X))).mono fun e w' h => ⟨h.1, by rw [h.2]; exact Below.refl _ _⟩) (by rw [← HrI.out, ← List.not_all_eq_any_not]))
   go_wp2_with fail
   refine (HC.out _).mono ?_
   rintro e' w2 ⟨rfl, hb2⟩
   have HB2 := Lib.hid (Below.next (HB.out.alloc (by omega) _) hb2)
   have hs2 := hb2.size
   have y0 := keepC hb2 (keepC HKE.out x0)
   have y2 := keepC hb2 (keepC HKE.out x2)
   clear hb2 HC x0 x1 x2 x3 x4 p0 p1 p2 p3 u0 u1
   cases rI with
   | false =>
    obtain rfl : false = r := HR.out
    go_wp2_with fail
    go_ret
    exact ⟨rfl, HB2.out⟩
   | true =>
    obtain rfl : rT = r := HR.out
    obtain ⟨⟨f0, f1, f2, f3, f4⟩, hf⟩ : ∃ f, Prims.facts a = f := ⟨_, rfl⟩
    have HF := Lib.hid hf
    have HH := Lib.hid (show Prims.has a = rT from by rw [← HrT.out, Prims.has, Unt.below, Bool.decide_and, show decide (a ≤ 30) = decide (a < 31) from by rw [decide_eq_decide]; omega])
    clear hf
    go_wp2_with fail
    refine (facts_to a f0 f1 f2 f3 f4 rT HF.out HH.out ha.1 ha.2 _).mono ?_
    rintro e' w3 ⟨rfl, hb3⟩
    have HB3 := Lib.hid ((Below.next HB2.out hb3).alloc (by have := hb3.size; simp at this hs2; omega) (.cells #[.string f0, .int .i64 f1, .int .i64 f2, .bool f3, .bool f4] 97))
    clear hb3
    go_wp2_with fail
    go_ret
    exact ⟨rfl, HB3.out⟩
theorem fits_10 (d a b : Int) (l : List Int) (o : Option Addr) (len cap : Nat) (args regs : Int) (rest : Bool) (oc oa ok op : Option Addr) (lc cc la ca lk ck lp cp : Nat) (B : Nat) (w : World) (_ha : -9223372036854775808 ≤ a ∧ a ≤ 9223372036854775807) (hv : SlC w B 1 IntR l (.slice o len cap)) (hB : B ≤ w.heap.size) (r : Bool) (hr : Unt.fits ⟨10, d, a, b, l⟩ regs lc lp lk = r) :
  Calls Tryz.prog 34 #[.agg #[.int .i64 10, .int .i64 d, .int .i64 a, .int .i64 b, .slice o len cap], .agg #[.int .i64 args, .bool rest, .int .i64 regs, .slice oc lc cc, .slice oa la ca], .agg #[.slice ok lk ck, .slice op lp cp]] w fun e w' => e = .returned (.bool r) ∧ Below w.heap.size w w' := by
 have e : Unt.fits ⟨10, d, a, b, l⟩ regs lc lp lk = (Unt.regB true d regs && (Unt.regB true a regs && (Unt.regB false b regs && (decide (l.length ≤ 0) && (l.all (Unt.below · regs)))))) := by
  rw [Unt.fits, show Unt.isOp 10 = true by decide, show Unt.pD 10 = true by decide, show Unt.pN 10 = false by decide, show Unt.pA 10 = true by decide, show Unt.pM 10 = false by decide, show Unt.pB 10 = false by decide, show Unt.pL 10 = false by decide, show Unt.tailOk ⟨10, d, a, b, l⟩ lc lp lk = true by simp [Unt.tailOk]]
  simp only [Bool.true_and, Bool.and_true, Bool.false_or]
 rw [e] at hr
 clear e
 obtain ⟨rD, hrD⟩ : ∃ rD, (Unt.regB true d regs) = rD := ⟨_, rfl⟩
 obtain ⟨rA, hrA⟩ : ∃ rA, (Unt.regB true a regs) = rA := ⟨_, rfl⟩
 obtain ⟨rB, hrB⟩ : ∃ rB, (Unt.regB false b regs) = rB := ⟨_, rfl⟩
 obtain ⟨rL, hrL⟩ : ∃ rL, (decide (l.length ≤ 0)) = rL := ⟨_, rfl⟩
 obtain ⟨rI, hrI⟩ : ∃ rI, (l.all (Unt.below · regs)) = rI := ⟨_, rfl⟩
 rw [hrD, hrA, hrB, hrL, hrI] at hr
 have HrD := Lib.hid hrD
 have HrA := Lib.hid hrA
 have HrB := Lib.hid hrB
 have HrL := Lib.hid hrL
 have HrI := Lib.hid hrI
 have HR := Lib.hid hr
 have HV := Lib.hid hv
 obtain ⟨hlen, hcap, hmax⟩ := hv.lens
 have HL := Lib.hid hlen
 clear hr hv hlen hrD hrA hrB hrL hrI
 go_enter Tryz.func34, Tryz.ntmps34
 go_wp2_with fail
 refine (parts_10 _).mono ?_
 rintro e' w1 ⟨rfl, hb1⟩
 obtain ⟨bx, bp, bu, hb⟩ := three_boxes hb1
 have HB := Lib.hid hb
 have hs1 := bu.lt
 have z0 : w.heap.size < w1.heap.size := by omega
 have z1 : w.heap.size + 1 < w1.heap.size := by omega
 have x0 := bx.cell 0 rfl
 have x1 := bx.cell 1 rfl
 have x2 := bx.cell 2 rfl
 have x3 := bx.cell 3 rfl
 have x4 := bx.cell 4 rfl
 have p0 := bp.cell 0 rfl
 have p1 := bp.cell 1 rfl
 have p2 := bp.cell 2 rfl
 have p3 := bp.cell 3 rfl
 have u0 := bu.cell 0 rfl
 have u1 := bu.cell 1 rfl
 have HBP := Lib.hid bp
 have HKE := Lib.hid (Below.one w1 (.cells #[.bool true, .bool true, .bool false, .bool false, .bool false, .bool false] 89))
 have hp2 : ∀ X, (w1.alloc X).cell? ⟨w.heap.size + 1, 2, none⟩ = some (.int .i64 regs) := fun X => keepC (Below.one w1 X) p2
 have HP2 := Lib.hid hp2
 clear hb1 bx bp bu hb hp2
 go_wp2_with fail
 refine (reg_to true d regs rD HrD.out (w.heap.size + 1) _ (HP2.out _)).mono ?_
 rintro e' w' ⟨rfl, rfl⟩
 cases rD with
 | false =>
  obtain rfl : false = r := HR.out
  go_wp2_with fail
  go_ret
  exact ⟨rfl, HB.out.alloc (by omega) _⟩
 | true =>
  go_wp2_with fail
  refine (reg_to true a regs rA HrA.out (w.heap.size + 1) _ (HP2.out _)).mono ?_
  rintro e' w' ⟨rfl, rfl⟩
  cases rA with
  | false =>
   obtain rfl : false = r := HR.out
   go_wp2_with fail
   go_ret
   exact ⟨rfl, HB.out.alloc (by omega) _⟩
  | true =>
   go_wp2_with fail
   refine (reg_to false b regs rB HrB.out (w.heap.size + 1) _ (HP2.out _)).mono ?_
   rintro e' w' ⟨rfl, rfl⟩
   cases rB with
   | false =>
    obtain rfl : false = r := HR.out
    go_wp2_with fail
    go_ret
    exact ⟨rfl, HB.out.alloc (by omega) _⟩
   | true =>
    cases rL with
    | false =>
     have hpos : 0 < len := by have h1 := of_decide_eq_false HrL.out; have h2 := HL.out; omega
     obtain rfl : false = r := HR.out
     go_wp2_with fail
     go_ret
     exact ⟨rfl, HB.out.alloc (by omega) _⟩
    | true =>
     have hzero : len = 0 := by have h1 := of_decide_eq_true HrL.out; have h2 := HL.out; omega
     have hz2 : ¬ 0 < len := by omega
     clear hzero
     have HC := Lib.hid (fun X => containsG_int IntR 63 #[.pointer (some ⟨w.heap.size + 1, 0, none⟩)] (fun n => !Unt.below n regs) (!rI) l (.slice o len cap) B (w1.alloc X) (HV.out.kept ((HB.out.alloc (by omega) X).mono hB) fun _ _ _ h => h) (by simp; omega) (fun _ _ => rfl) (fun n _ c0 W hR hbW => by
       obtain ⟨hc0, _, _⟩ := hR
       obtain rfl : c0 = .int .i64 n := by simpa using hc0
       exact (regN_to n regs _ rfl (w.heap.size + 1) W (keepC hbW (HP2.out X))).mono fun e w' h => ⟨h.1, by rw [h.2]; exact Below.refl _ _⟩) (by rw [← HrI.out, ← List.not_all_eq_any_not]))
     go_wp2_with fail
     refine (HC.out _).mono ?_
     rintro e' w2 ⟨rfl, hb2⟩
     have HB2 := Lib.hid (Below.next (HB.out.alloc (by omega) _) hb2)
     have hs2 := hb2.size
     have y0 := keepC hb2 (keepC HKE.out x0)
     have y2 := keepC hb2 (keepC HKE.out x2)
     clear hb2 HC x0 x1 x2 x3 x4 p0 p1 p2 p3 u0 u1
     cases rI with
     | false =>
      obtain rfl : false = r := HR.out
      go_wp2_with fail
      go_ret
      exact ⟨rfl, HB2.out⟩
     | true =>
      obtain rfl : true = r := HR.out
      go_wp2_with fail
      go_ret
      exact ⟨rfl, HB2.out⟩
theorem fits_11 (d a b : Int) (l : List Int) (o : Option Addr) (len cap : Nat) (args regs : Int) (rest : Bool) (oc oa ok op : Option Addr) (lc cc la ca lk ck lp cp : Nat) (B : Nat) (w : World) (_ha : -9223372036854775808 ≤ a ∧ a ≤ 9223372036854775807) (hv : SlC w B 1 IntR l (.slice o len cap)) (hB : B ≤ w.heap.size) (r : Bool) (hr : Unt.fits ⟨11, d, a, b, l⟩ regs lc lp lk = r) :
  Calls Tryz.prog 34 #[.agg #[.int .i64 11, .int .i64 d, .int .i64 a, .int .i64 b, .slice o len cap], .agg #[.int .i64 args, .bool rest, .int .i64 regs, .slice oc lc cc, .slice oa la ca], .agg #[.slice ok lk ck, .slice op lp cp]] w fun e w' => e = .returned (.bool r) ∧ Below w.heap.size w w' := by
 have e : Unt.fits ⟨11, d, a, b, l⟩ regs lc lp lk = (Unt.regB true d regs && (Unt.regB true a regs && (Unt.regB false b regs && (decide (l.length ≤ 0) && (l.all (Unt.below · regs)))))) := by
  rw [Unt.fits, show Unt.isOp 11 = true by decide, show Unt.pD 11 = true by decide, show Unt.pN 11 = false by decide, show Unt.pA 11 = true by decide, show Unt.pM 11 = false by decide, show Unt.pB 11 = false by decide, show Unt.pL 11 = false by decide, show Unt.tailOk ⟨11, d, a, b, l⟩ lc lp lk = true by simp [Unt.tailOk]]
  simp only [Bool.true_and, Bool.and_true, Bool.false_or]
 rw [e] at hr
 clear e
 obtain ⟨rD, hrD⟩ : ∃ rD, (Unt.regB true d regs) = rD := ⟨_, rfl⟩
 obtain ⟨rA, hrA⟩ : ∃ rA, (Unt.regB true a regs) = rA := ⟨_, rfl⟩
 obtain ⟨rB, hrB⟩ : ∃ rB, (Unt.regB false b regs) = rB := ⟨_, rfl⟩
 obtain ⟨rL, hrL⟩ : ∃ rL, (decide (l.length ≤ 0)) = rL := ⟨_, rfl⟩
 obtain ⟨rI, hrI⟩ : ∃ rI, (l.all (Unt.below · regs)) = rI := ⟨_, rfl⟩
 rw [hrD, hrA, hrB, hrL, hrI] at hr
 have HrD := Lib.hid hrD
 have HrA := Lib.hid hrA
 have HrB := Lib.hid hrB
 have HrL := Lib.hid hrL
 have HrI := Lib.hid hrI
 have HR := Lib.hid hr
 have HV := Lib.hid hv
 obtain ⟨hlen, hcap, hmax⟩ := hv.lens
 have HL := Lib.hid hlen
 clear hr hv hlen hrD hrA hrB hrL hrI
 go_enter Tryz.func34, Tryz.ntmps34
 go_wp2_with fail
 refine (parts_11 _).mono ?_
 rintro e' w1 ⟨rfl, hb1⟩
 obtain ⟨bx, bp, bu, hb⟩ := three_boxes hb1
 have HB := Lib.hid hb
 have hs1 := bu.lt
 have z0 : w.heap.size < w1.heap.size := by omega
 have z1 : w.heap.size + 1 < w1.heap.size := by omega
 have x0 := bx.cell 0 rfl
 have x1 := bx.cell 1 rfl
 have x2 := bx.cell 2 rfl
 have x3 := bx.cell 3 rfl
 have x4 := bx.cell 4 rfl
 have p0 := bp.cell 0 rfl
 have p1 := bp.cell 1 rfl
 have p2 := bp.cell 2 rfl
 have p3 := bp.cell 3 rfl
 have u0 := bu.cell 0 rfl
 have u1 := bu.cell 1 rfl
 have HBP := Lib.hid bp
 have HKE := Lib.hid (Below.one w1 (.cells #[.bool true, .bool true, .bool false, .bool false, .bool false, .bool false] 89))
 have hp2 : ∀ X, (w1.alloc X).cell? ⟨w.heap.size + 1, 2, none⟩ = some (.int .i64 regs) := fun X => keepC (Below.one w1 X) p2
 have HP2 := Lib.hid hp2
 clear hb1 bx bp bu hb hp2
 go_wp2_with fail
 refine (reg_to true d regs rD HrD.out (w.heap.size + 1) _ (HP2.out _)).mono ?_
 rintro e' w' ⟨rfl, rfl⟩
 cases rD with
 | false =>
  obtain rfl : false = r := HR.out
  go_wp2_with fail
  go_ret
  exact ⟨rfl, HB.out.alloc (by omega) _⟩
 | true =>
  go_wp2_with fail
  refine (reg_to true a regs rA HrA.out (w.heap.size + 1) _ (HP2.out _)).mono ?_
  rintro e' w' ⟨rfl, rfl⟩
  cases rA with
  | false =>
   obtain rfl : false = r := HR.out
   go_wp2_with fail
   go_ret
   exact ⟨rfl, HB.out.alloc (by omega) _⟩
  | true =>
   go_wp2_with fail
   refine (reg_to false b regs rB HrB.out (w.heap.size + 1) _ (HP2.out _)).mono ?_
   rintro e' w' ⟨rfl, rfl⟩
   cases rB with
   | false =>
    obtain rfl : false = r := HR.out
    go_wp2_with fail
    go_ret
    exact ⟨rfl, HB.out.alloc (by omega) _⟩
   | true =>
    cases rL with
    | false =>
     have hpos : 0 < len := by have h1 := of_decide_eq_false HrL.out; have h2 := HL.out; omega
     obtain rfl : false = r := HR.out
     go_wp2_with fail
     go_ret
     exact ⟨rfl, HB.out.alloc (by omega) _⟩
    | true =>
     have hzero : len = 0 := by have h1 := of_decide_eq_true HrL.out; have h2 := HL.out; omega
     have hz2 : ¬ 0 < len := by omega
     clear hzero
     have HC := Lib.hid (fun X => containsG_int IntR 63 #[.pointer (some ⟨w.heap.size + 1, 0, none⟩)] (fun n => !Unt.below n regs) (!rI) l (.slice o len cap) B (w1.alloc X) (HV.out.kept ((HB.out.alloc (by omega) X).mono hB) fun _ _ _ h => h) (by simp; omega) (fun _ _ => rfl) (fun n _ c0 W hR hbW => by
       obtain ⟨hc0, _, _⟩ := hR
       obtain rfl : c0 = .int .i64 n := by simpa using hc0
       exact (regN_to n regs _ rfl (w.heap.size + 1) W (keepC hbW (HP2.out X))).mono fun e w' h => ⟨h.1, by rw [h.2]; exact Below.refl _ _⟩) (by rw [← HrI.out, ← List.not_all_eq_any_not]))
     go_wp2_with fail
     refine (HC.out _).mono ?_
     rintro e' w2 ⟨rfl, hb2⟩
     have HB2 := Lib.hid (Below.next (HB.out.alloc (by omega) _) hb2)
     have hs2 := hb2.size
     have y0 := keepC hb2 (keepC HKE.out x0)
     have y2 := keepC hb2 (keepC HKE.out x2)
     clear hb2 HC x0 x1 x2 x3 x4 p0 p1 p2 p3 u0 u1
     cases rI with
     | false =>
      obtain rfl : false = r := HR.out
      go_wp2_with fail
      go_ret
      exact ⟨rfl, HB2.out⟩
     | true =>
      obtain rfl : true = r := HR.out
      go_wp2_with fail
      go_ret
      exact ⟨rfl, HB2.out⟩
theorem fits_12 (d a b : Int) (l : List Int) (o : Option Addr) (len cap : Nat) (args regs : Int) (rest : Bool) (oc oa ok op : Option Addr) (lc cc la ca lk ck lp cp : Nat) (B : Nat) (w : World) (_ha : -9223372036854775808 ≤ a ∧ a ≤ 9223372036854775807) (hv : SlC w B 1 IntR l (.slice o len cap)) (hB : B ≤ w.heap.size) (r : Bool) (hr : Unt.fits ⟨12, d, a, b, l⟩ regs lc lp lk = r) :
  Calls Tryz.prog 34 #[.agg #[.int .i64 12, .int .i64 d, .int .i64 a, .int .i64 b, .slice o len cap], .agg #[.int .i64 args, .bool rest, .int .i64 regs, .slice oc lc cc, .slice oa la ca], .agg #[.slice ok lk ck, .slice op lp cp]] w fun e w' => e = .returned (.bool r) ∧ Below w.heap.size w w' := by
 have e : Unt.fits ⟨12, d, a, b, l⟩ regs lc lp lk = (Unt.regB false d regs && (Unt.regB true a regs && (Unt.regB true b regs && (decide (l.length ≤ 0) && (l.all (Unt.below · regs)))))) := by
  rw [Unt.fits, show Unt.isOp 12 = true by decide, show Unt.pD 12 = false by decide, show Unt.pN 12 = false by decide, show Unt.pA 12 = true by decide, show Unt.pM 12 = false by decide, show Unt.pB 12 = true by decide, show Unt.pL 12 = false by decide, show Unt.tailOk ⟨12, d, a, b, l⟩ lc lp lk = true by simp [Unt.tailOk]]
  simp only [Bool.true_and, Bool.and_true, Bool.false_or]
 rw [e] at hr
 clear e
 obtain ⟨rD, hrD⟩ : ∃ rD, (Unt.regB false d regs) = rD := ⟨_, rfl⟩
 obtain ⟨rA, hrA⟩ : ∃ rA, (Unt.regB true a regs) = rA := ⟨_, rfl⟩
 obtain ⟨rB, hrB⟩ : ∃ rB, (Unt.regB true b regs) = rB := ⟨_, rfl⟩
 obtain ⟨rL, hrL⟩ : ∃ rL, (decide (l.length ≤ 0)) = rL := ⟨_, rfl⟩
 obtain ⟨rI, hrI⟩ : ∃ rI, (l.all (Unt.below · regs)) = rI := ⟨_, rfl⟩
 rw [hrD, hrA, hrB, hrL, hrI] at hr
 have HrD := Lib.hid hrD
 have HrA := Lib.hid hrA
 have HrB := Lib.hid hrB
 have HrL := Lib.hid hrL
 have HrI := Lib.hid hrI
 have HR := Lib.hid hr
 have HV := Lib.hid hv
 obtain ⟨hlen, hcap, hmax⟩ := hv.lens
 have HL := Lib.hid hlen
 clear hr hv hlen hrD hrA hrB hrL hrI
 go_enter Tryz.func34, Tryz.ntmps34
 go_wp2_with fail
 refine (parts_12 _).mono ?_
 rintro e' w1 ⟨rfl, hb1⟩
 obtain ⟨bx, bp, bu, hb⟩ := three_boxes hb1
 have HB := Lib.hid hb
 have hs1 := bu.lt
 have z0 : w.heap.size < w1.heap.size := by omega
 have z1 : w.heap.size + 1 < w1.heap.size := by omega
 have x0 := bx.cell 0 rfl
 have x1 := bx.cell 1 rfl
 have x2 := bx.cell 2 rfl
 have x3 := bx.cell 3 rfl
 have x4 := bx.cell 4 rfl
 have p0 := bp.cell 0 rfl
 have p1 := bp.cell 1 rfl
 have p2 := bp.cell 2 rfl
 have p3 := bp.cell 3 rfl
 have u0 := bu.cell 0 rfl
 have u1 := bu.cell 1 rfl
 have HBP := Lib.hid bp
 have HKE := Lib.hid (Below.one w1 (.cells #[.bool false, .bool true, .bool true, .bool false, .bool false, .bool false] 89))
 have hp2 : ∀ X, (w1.alloc X).cell? ⟨w.heap.size + 1, 2, none⟩ = some (.int .i64 regs) := fun X => keepC (Below.one w1 X) p2
 have HP2 := Lib.hid hp2
 clear hb1 bx bp bu hb hp2
 go_wp2_with fail
 refine (reg_to false d regs rD HrD.out (w.heap.size + 1) _ (HP2.out _)).mono ?_
 rintro e' w' ⟨rfl, rfl⟩
 cases rD with
 | false =>
  obtain rfl : false = r := HR.out
  go_wp2_with fail
  go_ret
  exact ⟨rfl, HB.out.alloc (by omega) _⟩
 | true =>
  go_wp2_with fail
  refine (reg_to true a regs rA HrA.out (w.heap.size + 1) _ (HP2.out _)).mono ?_
  rintro e' w' ⟨rfl, rfl⟩
  cases rA with
  | false =>
   obtain rfl : false = r := HR.out
   go_wp2_with fail
   go_ret
   exact ⟨rfl, HB.out.alloc (by omega) _⟩
  | true =>
   go_wp2_with fail
   refine (reg_to true b regs rB HrB.out (w.heap.size + 1) _ (HP2.out _)).mono ?_
   rintro e' w' ⟨rfl, rfl⟩
   cases rB with
   | false =>
    obtain rfl : false = r := HR.out
    go_wp2_with fail
    go_ret
    exact ⟨rfl, HB.out.alloc (by omega) _⟩
   | true =>
    cases rL with
    | false =>
     have hpos : 0 < len := by have h1 := of_decide_eq_false HrL.out; have h2 := HL.out; omega
     obtain rfl : false = r := HR.out
     go_wp2_with fail
     go_ret
     exact ⟨rfl, HB.out.alloc (by omega) _⟩
    | true =>
     have hzero : len = 0 := by have h1 := of_decide_eq_true HrL.out; have h2 := HL.out; omega
     have hz2 : ¬ 0 < len := by omega
     clear hzero
     have HC := Lib.hid (fun X => containsG_int IntR 63 #[.pointer (some ⟨w.heap.size + 1, 0, none⟩)] (fun n => !Unt.below n regs) (!rI) l (.slice o len cap) B (w1.alloc X) (HV.out.kept ((HB.out.alloc (by omega) X).mono hB) fun _ _ _ h => h) (by simp; omega) (fun _ _ => rfl) (fun n _ c0 W hR hbW => by
       obtain ⟨hc0, _, _⟩ := hR
       obtain rfl : c0 = .int .i64 n := by simpa using hc0
       exact (regN_to n regs _ rfl (w.heap.size + 1) W (keepC hbW (HP2.out X))).mono fun e w' h => ⟨h.1, by rw [h.2]; exact Below.refl _ _⟩) (by rw [← HrI.out, ← List.not_all_eq_any_not]))
     go_wp2_with fail
     refine (HC.out _).mono ?_
     rintro e' w2 ⟨rfl, hb2⟩
     have HB2 := Lib.hid (Below.next (HB.out.alloc (by omega) _) hb2)
     have hs2 := hb2.size
     have y0 := keepC hb2 (keepC HKE.out x0)
     have y2 := keepC hb2 (keepC HKE.out x2)
     clear hb2 HC x0 x1 x2 x3 x4 p0 p1 p2 p3 u0 u1
     cases rI with
     | false =>
      obtain rfl : false = r := HR.out
      go_wp2_with fail
      go_ret
      exact ⟨rfl, HB2.out⟩
     | true =>
      obtain rfl : true = r := HR.out
      go_wp2_with fail
      go_ret
      exact ⟨rfl, HB2.out⟩
theorem fits_13 (d a b : Int) (l : List Int) (o : Option Addr) (len cap : Nat) (args regs : Int) (rest : Bool) (oc oa ok op : Option Addr) (lc cc la ca lk ck lp cp : Nat) (B : Nat) (w : World) (_ha : -9223372036854775808 ≤ a ∧ a ≤ 9223372036854775807) (hv : SlC w B 1 IntR l (.slice o len cap)) (hB : B ≤ w.heap.size) (r : Bool) (hr : Unt.fits ⟨13, d, a, b, l⟩ regs lc lp lk = r) :
  Calls Tryz.prog 34 #[.agg #[.int .i64 13, .int .i64 d, .int .i64 a, .int .i64 b, .slice o len cap], .agg #[.int .i64 args, .bool rest, .int .i64 regs, .slice oc lc cc, .slice oa la ca], .agg #[.slice ok lk ck, .slice op lp cp]] w fun e w' => e = .returned (.bool r) ∧ Below w.heap.size w w' := by
 have e : Unt.fits ⟨13, d, a, b, l⟩ regs lc lp lk = (Unt.regB false d regs && (Unt.regB true a regs && (Unt.regB true b regs && (decide (l.length ≤ 0) && (l.all (Unt.below · regs)))))) := by
  rw [Unt.fits, show Unt.isOp 13 = true by decide, show Unt.pD 13 = false by decide, show Unt.pN 13 = false by decide, show Unt.pA 13 = true by decide, show Unt.pM 13 = false by decide, show Unt.pB 13 = true by decide, show Unt.pL 13 = false by decide, show Unt.tailOk ⟨13, d, a, b, l⟩ lc lp lk = true by simp [Unt.tailOk]]
  simp only [Bool.true_and, Bool.and_true, Bool.false_or]
 rw [e] at hr
 clear e
 obtain ⟨rD, hrD⟩ : ∃ rD, (Unt.regB false d regs) = rD := ⟨_, rfl⟩
 obtain ⟨rA, hrA⟩ : ∃ rA, (Unt.regB true a regs) = rA := ⟨_, rfl⟩
 obtain ⟨rB, hrB⟩ : ∃ rB, (Unt.regB true b regs) = rB := ⟨_, rfl⟩
 obtain ⟨rL, hrL⟩ : ∃ rL, (decide (l.length ≤ 0)) = rL := ⟨_, rfl⟩
 obtain ⟨rI, hrI⟩ : ∃ rI, (l.all (Unt.below · regs)) = rI := ⟨_, rfl⟩
 rw [hrD, hrA, hrB, hrL, hrI] at hr
 have HrD := Lib.hid hrD
 have HrA := Lib.hid hrA
 have HrB := Lib.hid hrB
 have HrL := Lib.hid hrL
 have HrI := Lib.hid hrI
 have HR := Lib.hid hr
 have HV := Lib.hid hv
 obtain ⟨hlen, hcap, hmax⟩ := hv.lens
 have HL := Lib.hid hlen
 clear hr hv hlen hrD hrA hrB hrL hrI
 go_enter Tryz.func34, Tryz.ntmps34
 go_wp2_with fail
 refine (parts_13 _).mono ?_
 rintro e' w1 ⟨rfl, hb1⟩
 obtain ⟨bx, bp, bu, hb⟩ := three_boxes hb1
 have HB := Lib.hid hb
 have hs1 := bu.lt
 have z0 : w.heap.size < w1.heap.size := by omega
 have z1 : w.heap.size + 1 < w1.heap.size := by omega
 have x0 := bx.cell 0 rfl
 have x1 := bx.cell 1 rfl
 have x2 := bx.cell 2 rfl
 have x3 := bx.cell 3 rfl
 have x4 := bx.cell 4 rfl
 have p0 := bp.cell 0 rfl
 have p1 := bp.cell 1 rfl
 have p2 := bp.cell 2 rfl
 have p3 := bp.cell 3 rfl
 have u0 := bu.cell 0 rfl
 have u1 := bu.cell 1 rfl
 have HBP := Lib.hid bp
 have HKE := Lib.hid (Below.one w1 (.cells #[.bool false, .bool true, .bool true, .bool false, .bool false, .bool false] 89))
 have hp2 : ∀ X, (w1.alloc X).cell? ⟨w.heap.size + 1, 2, none⟩ = some (.int .i64 regs) := fun X => keepC (Below.one w1 X) p2
 have HP2 := Lib.hid hp2
 clear hb1 bx bp bu hb hp2
 go_wp2_with fail
 refine (reg_to false d regs rD HrD.out (w.heap.size + 1) _ (HP2.out _)).mono ?_
 rintro e' w' ⟨rfl, rfl⟩
 cases rD with
 | false =>
  obtain rfl : false = r := HR.out
  go_wp2_with fail
  go_ret
  exact ⟨rfl, HB.out.alloc (by omega) _⟩
 | true =>
  go_wp2_with fail
  refine (reg_to true a regs rA HrA.out (w.heap.size + 1) _ (HP2.out _)).mono ?_
  rintro e' w' ⟨rfl, rfl⟩
  cases rA with
  | false =>
   obtain rfl : false = r := HR.out
   go_wp2_with fail
   go_ret
   exact ⟨rfl, HB.out.alloc (by omega) _⟩
  | true =>
   go_wp2_with fail
   refine (reg_to true b regs rB HrB.out (w.heap.size + 1) _ (HP2.out _)).mono ?_
   rintro e' w' ⟨rfl, rfl⟩
   cases rB with
   | false =>
    obtain rfl : false = r := HR.out
    go_wp2_with fail
    go_ret
    exact ⟨rfl, HB.out.alloc (by omega) _⟩
   | true =>
    cases rL with
    | false =>
     have hpos : 0 < len := by have h1 := of_decide_eq_false HrL.out; have h2 := HL.out; omega
     obtain rfl : false = r := HR.out
     go_wp2_with fail
     go_ret
     exact ⟨rfl, HB.out.alloc (by omega) _⟩
    | true =>
     have hzero : len = 0 := by have h1 := of_decide_eq_true HrL.out; have h2 := HL.out; omega
     have hz2 : ¬ 0 < len := by omega
     clear hzero
     have HC := Lib.hid (fun X => containsG_int IntR 63 #[.pointer (some ⟨w.heap.size + 1, 0, none⟩)] (fun n => !Unt.below n regs) (!rI) l (.slice o len cap) B (w1.alloc X) (HV.out.kept ((HB.out.alloc (by omega) X).mono hB) fun _ _ _ h => h) (by simp; omega) (fun _ _ => rfl) (fun n _ c0 W hR hbW => by
       obtain ⟨hc0, _, _⟩ := hR
       obtain rfl : c0 = .int .i64 n := by simpa using hc0
       exact (regN_to n regs _ rfl (w.heap.size + 1) W (keepC hbW (HP2.out X))).mono fun e w' h => ⟨h.1, by rw [h.2]; exact Below.refl _ _⟩) (by rw [← HrI.out, ← List.not_all_eq_any_not]))
     go_wp2_with fail
     refine (HC.out _).mono ?_
     rintro e' w2 ⟨rfl, hb2⟩
     have HB2 := Lib.hid (Below.next (HB.out.alloc (by omega) _) hb2)
     have hs2 := hb2.size
     have y0 := keepC hb2 (keepC HKE.out x0)
     have y2 := keepC hb2 (keepC HKE.out x2)
     clear hb2 HC x0 x1 x2 x3 x4 p0 p1 p2 p3 u0 u1
     cases rI with
     | false =>
      obtain rfl : false = r := HR.out
      go_wp2_with fail
      go_ret
      exact ⟨rfl, HB2.out⟩
     | true =>
      obtain rfl : true = r := HR.out
      go_wp2_with fail
      go_ret
      exact ⟨rfl, HB2.out⟩
theorem fits_14 (d a b : Int) (l : List Int) (o : Option Addr) (len cap : Nat) (args regs : Int) (rest : Bool) (oc oa ok op : Option Addr) (lc cc la ca lk ck lp cp : Nat) (B : Nat) (w : World) (_ha : -9223372036854775808 ≤ a ∧ a ≤ 9223372036854775807) (hv : SlC w B 1 IntR l (.slice o len cap)) (hB : B ≤ w.heap.size) (r : Bool) (hr : Unt.fits ⟨14, d, a, b, l⟩ regs lc lp lk = r) :
  Calls Tryz.prog 34 #[.agg #[.int .i64 14, .int .i64 d, .int .i64 a, .int .i64 b, .slice o len cap], .agg #[.int .i64 args, .bool rest, .int .i64 regs, .slice oc lc cc, .slice oa la ca], .agg #[.slice ok lk ck, .slice op lp cp]] w fun e w' => e = .returned (.bool r) ∧ Below w.heap.size w w' := by
 have e : Unt.fits ⟨14, d, a, b, l⟩ regs lc lp lk = (Unt.regB true d regs && (Unt.regB true a regs && (Unt.regB false b regs && (decide (l.length ≤ 0) && (l.all (Unt.below · regs)))))) := by
  rw [Unt.fits, show Unt.isOp 14 = true by decide, show Unt.pD 14 = true by decide, show Unt.pN 14 = false by decide, show Unt.pA 14 = true by decide, show Unt.pM 14 = false by decide, show Unt.pB 14 = false by decide, show Unt.pL 14 = false by decide, show Unt.tailOk ⟨14, d, a, b, l⟩ lc lp lk = true by simp [Unt.tailOk]]
  simp only [Bool.true_and, Bool.and_true, Bool.false_or]
 rw [e] at hr
 clear e
 obtain ⟨rD, hrD⟩ : ∃ rD, (Unt.regB true d regs) = rD := ⟨_, rfl⟩
 obtain ⟨rA, hrA⟩ : ∃ rA, (Unt.regB true a regs) = rA := ⟨_, rfl⟩
 obtain ⟨rB, hrB⟩ : ∃ rB, (Unt.regB false b regs) = rB := ⟨_, rfl⟩
 obtain ⟨rL, hrL⟩ : ∃ rL, (decide (l.length ≤ 0)) = rL := ⟨_, rfl⟩
 obtain ⟨rI, hrI⟩ : ∃ rI, (l.all (Unt.below · regs)) = rI := ⟨_, rfl⟩
 rw [hrD, hrA, hrB, hrL, hrI] at hr
 have HrD := Lib.hid hrD
 have HrA := Lib.hid hrA
 have HrB := Lib.hid hrB
 have HrL := Lib.hid hrL
 have HrI := Lib.hid hrI
 have HR := Lib.hid hr
 have HV := Lib.hid hv
 obtain ⟨hlen, hcap, hmax⟩ := hv.lens
 have HL := Lib.hid hlen
 clear hr hv hlen hrD hrA hrB hrL hrI
 go_enter Tryz.func34, Tryz.ntmps34
 go_wp2_with fail
 refine (parts_14 _).mono ?_
 rintro e' w1 ⟨rfl, hb1⟩
 obtain ⟨bx, bp, bu, hb⟩ := three_boxes hb1
 have HB := Lib.hid hb
 have hs1 := bu.lt
 have z0 : w.heap.size < w1.heap.size := by omega
 have z1 : w.heap.size + 1 < w1.heap.size := by omega
 have x0 := bx.cell 0 rfl
 have x1 := bx.cell 1 rfl
 have x2 := bx.cell 2 rfl
 have x3 := bx.cell 3 rfl
 have x4 := bx.cell 4 rfl
 have p0 := bp.cell 0 rfl
 have p1 := bp.cell 1 rfl
 have p2 := bp.cell 2 rfl
 have p3 := bp.cell 3 rfl
 have u0 := bu.cell 0 rfl
 have u1 := bu.cell 1 rfl
 have HBP := Lib.hid bp
 have HKE := Lib.hid (Below.one w1 (.cells #[.bool true, .bool true, .bool false, .bool false, .bool false, .bool false] 89))
 have hp2 : ∀ X, (w1.alloc X).cell? ⟨w.heap.size + 1, 2, none⟩ = some (.int .i64 regs) := fun X => keepC (Below.one w1 X) p2
 have HP2 := Lib.hid hp2
 clear hb1 bx bp bu hb hp2
 go_wp2_with fail
 refine (reg_to true d regs rD HrD.out (w.heap.size + 1) _ (HP2.out _)).mono ?_
 rintro e' w' ⟨rfl, rfl⟩
 cases rD with
 | false =>
  obtain rfl : false = r := HR.out
  go_wp2_with fail
  go_ret
  exact ⟨rfl, HB.out.alloc (by omega) _⟩
 | true =>
  go_wp2_with fail
  refine (reg_to true a regs rA HrA.out (w.heap.size + 1) _ (HP2.out _)).mono ?_
  rintro e' w' ⟨rfl, rfl⟩
  cases rA with
  | false =>
   obtain rfl : false = r := HR.out
   go_wp2_with fail
   go_ret
   exact ⟨rfl, HB.out.alloc (by omega) _⟩
  | true =>
   go_wp2_with fail
   refine (reg_to false b regs rB HrB.out (w.heap.size + 1) _ (HP2.out _)).mono ?_
   rintro e' w' ⟨rfl, rfl⟩
   cases rB with
   | false =>
    obtain rfl : false = r := HR.out
    go_wp2_with fail
    go_ret
    exact ⟨rfl, HB.out.alloc (by omega) _⟩
   | true =>
    cases rL with
    | false =>
     have hpos : 0 < len := by have h1 := of_decide_eq_false HrL.out; have h2 := HL.out; omega
     obtain rfl : false = r := HR.out
     go_wp2_with fail
     go_ret
     exact ⟨rfl, HB.out.alloc (by omega) _⟩
    | true =>
     have hzero : len = 0 := by have h1 := of_decide_eq_true HrL.out; have h2 := HL.out; omega
     have hz2 : ¬ 0 < len := by omega
     clear hzero
     have HC := Lib.hid (fun X => containsG_int IntR 63 #[.pointer (some ⟨w.heap.size + 1, 0, none⟩)] (fun n => !Unt.below n regs) (!rI) l (.slice o len cap) B (w1.alloc X) (HV.out.kept ((HB.out.alloc (by omega) X).mono hB) fun _ _ _ h => h) (by simp; omega) (fun _ _ => rfl) (fun n _ c0 W hR hbW => by
       obtain ⟨hc0, _, _⟩ := hR
       obtain rfl : c0 = .int .i64 n := by simpa using hc0
       exact (regN_to n regs _ rfl (w.heap.size + 1) W (keepC hbW (HP2.out X))).mono fun e w' h => ⟨h.1, by rw [h.2]; exact Below.refl _ _⟩) (by rw [← HrI.out, ← List.not_all_eq_any_not]))
     go_wp2_with fail
     refine (HC.out _).mono ?_
     rintro e' w2 ⟨rfl, hb2⟩
     have HB2 := Lib.hid (Below.next (HB.out.alloc (by omega) _) hb2)
     have hs2 := hb2.size
     have y0 := keepC hb2 (keepC HKE.out x0)
     have y2 := keepC hb2 (keepC HKE.out x2)
     clear hb2 HC x0 x1 x2 x3 x4 p0 p1 p2 p3 u0 u1
     cases rI with
     | false =>
      obtain rfl : false = r := HR.out
      go_wp2_with fail
      go_ret
      exact ⟨rfl, HB2.out⟩
     | true =>
      obtain rfl : true = r := HR.out
      go_wp2_with fail
      go_ret
      exact ⟨rfl, HB2.out⟩
theorem fits_15 (d a b : Int) (l : List Int) (o : Option Addr) (len cap : Nat) (args regs : Int) (rest : Bool) (oc oa ok op : Option Addr) (lc cc la ca lk ck lp cp : Nat) (B : Nat) (w : World) (_ha : -9223372036854775808 ≤ a ∧ a ≤ 9223372036854775807) (hv : SlC w B 1 IntR l (.slice o len cap)) (hB : B ≤ w.heap.size) (r : Bool) (hr : Unt.fits ⟨15, d, a, b, l⟩ regs lc lp lk = r) :
  Calls Tryz.prog 34 #[.agg #[.int .i64 15, .int .i64 d, .int .i64 a, .int .i64 b, .slice o len cap], .agg #[.int .i64 args, .bool rest, .int .i64 regs, .slice oc lc cc, .slice oa la ca], .agg #[.slice ok lk ck, .slice op lp cp]] w fun e w' => e = .returned (.bool r) ∧ Below w.heap.size w w' := by
 have e : Unt.fits ⟨15, d, a, b, l⟩ regs lc lp lk = (Unt.regB false d regs && (Unt.regB false b regs && (decide (l.length ≤ 0) && (l.all (Unt.below · regs) && (Unt.below a lc))))) := by
  rw [Unt.fits, show Unt.isOp 15 = true by decide, show Unt.pD 15 = false by decide, show Unt.pN 15 = true by decide, show Unt.pM 15 = false by decide, show Unt.pB 15 = false by decide, show Unt.pL 15 = false by decide, show Unt.tailOk ⟨15, d, a, b, l⟩ lc lp lk = Unt.below a lc by simp [Unt.tailOk]]
  simp only [Bool.true_and, Bool.true_or, Bool.false_or]
 rw [e] at hr
 clear e
 obtain ⟨rD, hrD⟩ : ∃ rD, (Unt.regB false d regs) = rD := ⟨_, rfl⟩
 obtain ⟨rB, hrB⟩ : ∃ rB, (Unt.regB false b regs) = rB := ⟨_, rfl⟩
 obtain ⟨rL, hrL⟩ : ∃ rL, (decide (l.length ≤ 0)) = rL := ⟨_, rfl⟩
 obtain ⟨rI, hrI⟩ : ∃ rI, (l.all (Unt.below · regs)) = rI := ⟨_, rfl⟩
 obtain ⟨rT, hrT⟩ : ∃ rT, (Unt.below a lc) = rT := ⟨_, rfl⟩
 rw [hrD, hrB, hrL, hrI, hrT] at hr
 have HrD := Lib.hid hrD
 have HrB := Lib.hid hrB
 have HrL := Lib.hid hrL
 have HrI := Lib.hid hrI
 have HrT := Lib.hid hrT
 have HR := Lib.hid hr
 have HV := Lib.hid hv
 obtain ⟨hlen, hcap, hmax⟩ := hv.lens
 have HL := Lib.hid hlen
 clear hr hv hlen hrD hrB hrL hrI hrT
 go_enter Tryz.func34, Tryz.ntmps34
 go_wp2_with fail
 refine (parts_15 _).mono ?_
 rintro e' w1 ⟨rfl, hb1⟩
 obtain ⟨bx, bp, bu, hb⟩ := three_boxes hb1
 have HB := Lib.hid hb
 have hs1 := bu.lt
 have z0 : w.heap.size < w1.heap.size := by omega
 have z1 : w.heap.size + 1 < w1.heap.size := by omega
 have x0 := bx.cell 0 rfl
 have x1 := bx.cell 1 rfl
 have x2 := bx.cell 2 rfl
 have x3 := bx.cell 3 rfl
 have x4 := bx.cell 4 rfl
 have p0 := bp.cell 0 rfl
 have p1 := bp.cell 1 rfl
 have p2 := bp.cell 2 rfl
 have p3 := bp.cell 3 rfl
 have u0 := bu.cell 0 rfl
 have u1 := bu.cell 1 rfl
 have HBP := Lib.hid bp
 have HKE := Lib.hid (Below.one w1 (.cells #[.bool false, .bool false, .bool false, .bool false, .bool true, .bool false] 89))
 have hp2 : ∀ X, (w1.alloc X).cell? ⟨w.heap.size + 1, 2, none⟩ = some (.int .i64 regs) := fun X => keepC (Below.one w1 X) p2
 have HP2 := Lib.hid hp2
 clear hb1 bx bp bu hb hp2
 go_wp2_with fail
 refine (reg_to false d regs rD HrD.out (w.heap.size + 1) _ (HP2.out _)).mono ?_
 rintro e' w' ⟨rfl, rfl⟩
 cases rD with
 | false =>
  obtain rfl : false = r := HR.out
  go_wp2_with fail
  go_ret
  exact ⟨rfl, HB.out.alloc (by omega) _⟩
 | true =>
  go_wp2_with fail
  refine (reg_to false b regs rB HrB.out (w.heap.size + 1) _ (HP2.out _)).mono ?_
  rintro e' w' ⟨rfl, rfl⟩
  cases rB with
  | false =>
   obtain rfl : false = r := HR.out
   go_wp2_with fail
   go_ret
   exact ⟨rfl, HB.out.alloc (by omega) _⟩
  | true =>
   cases rL with
   | false =>
    have hpos : 0 < len := by have h1 := of_decide_eq_false HrL.out; have h2 := HL.out; omega
    obtain rfl : false = r := HR.out
    go_wp2_with fail
    go_ret
    exact ⟨rfl, HB.out.alloc (by omega) _⟩
   | true =>
    have hzero : len = 0 := by have h1 := of_decide_eq_true HrL.out; have h2 := HL.out; omega
    have hz2 : ¬ 0 < len := by omega
    clear hzero
    have HC := Lib.hid (fun X => containsG_int IntR 63 #[.pointer (some ⟨w.heap.size + 1, 0, none⟩)] (fun n => !Unt.below n regs) (!rI) l (.slice o len cap) B (w1.alloc X) (HV.out.kept ((HB.out.alloc (by omega) X).mono hB) fun _ _ _ h => h) (by simp; omega) (fun _ _ => rfl) (fun n _ c0 W hR hbW => by
      obtain ⟨hc0, _, _⟩ := hR
      obtain rfl : c0 = .int .i64 n := by simpa using hc0
      exact (regN_to n regs _ rfl (w.heap.size + 1) W (keepC hbW (HP2.out X))).mono fun e w' h => ⟨h.1, by rw [h.2]; exact Below.refl _ _⟩) (by rw [← HrI.out, ← List.not_all_eq_any_not]))
    go_wp2_with fail
    refine (HC.out _).mono ?_
    rintro e' w2 ⟨rfl, hb2⟩
    have HB2 := Lib.hid (Below.next (HB.out.alloc (by omega) _) hb2)
    have hs2 := hb2.size
    have y0 := keepC hb2 (keepC HKE.out x0)
    have y2 := keepC hb2 (keepC HKE.out x2)
    have q3 := keepC hb2 (keepC HKE.out p3)
    clear hb2 HC x0 x1 x2 x3 x4 p0 p1 p2 p3 u0 u1
    cases rI with
    | false =>
     obtain rfl : false = r := HR.out
     go_wp2_with fail
     go_ret
     exact ⟨rfl, HB2.out⟩
    | true =>
     obtain rfl : rT = r := HR.out
     go_wp2_with fail
     refine (below_to _ _ rT HrT.out _).mono ?_
     rintro e' w' ⟨rfl, rfl⟩
     go_wp2_with fail
     go_ret
     exact ⟨rfl, HB2.out⟩
end
end Go.Proofs.YtigkhmppnnljiaaGreatDoor

/-
  What the proofs lean on: FCheck.
-/
import Derived.Deep.LoopGhost
import Derived.Test.YtigkhmppnnljiaaGreatDoorLsoA18
set_option maxRecDepth 100000
set_option maxHeartbeats 16000000
namespace Go.Proofs.YtigkhmppnnljiaaGreatDoor
section
open Go.RowKit
theorem dright_to' (x : Dat) (v : Value) (B : Nat) (w : World) (r : Bool) (hr : Dat.right x 0 = r) (hv : RepD w B x v) (hB : B ≤ w.heap.size) :
  Calls Tryz.prog 31 #[v] w fun e w' => e = .returned (.bool r) ∧ Below w.heap.size w w' := by
 rw [← hr]; exact dright_any x v B w hv hB
theorem check1_to (x : Dat) (v : Value) (B : Nat) (w : World) (hv : RepD w B x v) (hB : B ≤ w.heap.size) :
  Calls Tryz.prog 30 #[v] w fun e w' => e = .returned (.bool (!Dat.right x 0)) ∧ Below w.heap.size w w' := by
 obtain ⟨k, n, d, s, o, len, cap, rfl⟩ := agg_of hv
 obtain ⟨r, hr⟩ : ∃ r, Dat.right x 0 = r := ⟨_, rfl⟩
 rw [hr]
 have HC := Lib.hid (fun X => dright_to' x _ B (w.alloc X) r hr (hv.kept ((Below.one w X).mono hB)) (by simp; omega))
 clear hr hv
 go_enter Tryz.func30, Tryz.ntmps30
 go_wp2_with fail
 refine (HC.out _).mono ?_
 rintro e w1 ⟨rfl, hb1⟩
 go_wp2_with fail
 go_ret
 exact ⟨rfl, one_below hb1⟩
theorem check2_to (x : Ins) (c0 c1 c2 c3 c4 : Value) (args regs : Int) (rest : Bool) (oc oa ok op : Option Addr) (lc cc la ca lk ck lp cp : Nat) (B pb ub : Nat) (w : World) (hx : InsR w B x [c0, c1, c2, c3, c4]) (hB : B ≤ w.heap.size)
  (hp : BoxL w pb 31 [.int .i64 args, .bool rest, .int .i64 regs, .slice oc lc cc, .slice oa la ca]) (hu : BoxL w ub 25 [.slice ok lk ck, .slice op lp cp]) :
  Calls Tryz.prog 33 #[.agg #[c0, c1, c2, c3, c4], .pointer (some ⟨pb, 0, none⟩), .pointer (some ⟨ub, 0, none⟩)] w fun e w' => e = .returned (.bool (!Unt.fits x regs lc lp lk)) ∧ Below w.heap.size w w' := by
 obtain ⟨k, d, a, b, l⟩ := x
 obtain ⟨sl, he, _, _, ha, _, hl⟩ := hx
 simp only [List.cons.injEq, and_true] at he
 obtain ⟨rfl, rfl, rfl, rfl, rfl⟩ := he
 obtain ⟨o, len, cap, rfl⟩ := hl.form
 obtain ⟨r, hr⟩ : ∃ r, Unt.fits ⟨k, d, a, b, l⟩ regs lc lp lk = r := ⟨_, rfl⟩
 rw [hr]
 have HC := Lib.hid (fun X => fits_any k d a b l o len cap args regs rest oc oa ok op lc cc la ca lk ck lp cp B (w.alloc X) ha (hl.kept ((Below.one w X).mono hB) fun _ _ _ h => h) (by simp; omega) r hr)
 have p0 := hp.cell 0 rfl
 have p1 := hp.cell 1 rfl
 have p2 := hp.cell 2 rfl
 have p3 := hp.cell 3 rfl
 have p4 := hp.cell 4 rfl
 have u0 := hu.cell 0 rfl
 have u1 := hu.cell 1 rfl
 have z0 := hp.lt
 have z1 := hu.lt
 dsimp only at p0 p1 p2 p3 p4 u0 u1 ha
 clear hr hl hp hu
 go_enter Tryz.func33, Tryz.ntmps33
 go_wp2_with fail
 refine (HC.out _).mono ?_
 rintro e w1 ⟨rfl, hb1⟩
 go_wp2_with fail
 go_ret
 exact ⟨rfl, one_below hb1⟩
theorem procsB_step {nk np : Int} {l : List Proc} {j : Nat} {p : Proc} {all : Int} (h : l[j]? = some p) : Unt.procsB nk np (l.drop j) all = (Unt.headB p && (decide (all + p.code.length ≤ 50000) && (Unt.lastB (Unt.lastOp p.code) && (p.code.all (fun x => Unt.fits x p.regs p.code.length np nk) && Unt.procsB nk np (l.drop (j + 1)) (all + p.code.length))))) := by
 obtain ⟨hj, he⟩ := List.getElem?_eq_some_iff.1 h
 rw [List.drop_eq_getElem_cons hj, he, Unt.procsB]
theorem err_no {u : Unt} (h : u.okB = false) : u.err = 5 := by simp [Unt.err, h]
theorem err_ok {u : Unt} (h : u.okB = true) : u.err = 0 := by simp [Unt.err, h]
theorem lastOp_at {l : List Ins} {x : Ins} {n : Nat} (hn : n = l.length) (hx : l[n - 1]? = some x) : Unt.lastOp l = x.op := by
 subst hn
 rw [Unt.lastOp, List.getLast?_eq_getElem?, hx]
theorem fcheck_any (u : Unt) (v : Value) (B : Nat) (w : World) (hv : UntR w B u v) (hB : B ≤ w.heap.size) :
  Calls Tryz.prog 12 #[v] w fun e w' => e = .returned (.int .i64 u.err) ∧ Below w.heap.size w w' := by
 obtain ⟨cv, pv, rfl, hc, hp⟩ := hv
 obtain ⟨E, hE⟩ : ∃ E, u.err = E := ⟨_, rfl⟩
 rw [hE]
 obtain ⟨op, np, cp, rfl, hnp, hcapp, hmaxp⟩ := hp.slice
 have HCS := Lib.hid hc
 obtain ⟨ok, nk, ck, rfl, hnk, hcapk, hmaxk, _⟩ := hc
 have HP := Lib.hid hp
 have HE := Lib.hid hE
 have HNP := Lib.hid hnp
 have HNK := Lib.hid hnk
 clear hp hE hnp hnk
 have HNO := Lib.hid (show (∀ h : u.okB = false, E = 5) from fun h => by rw [← HE.out, err_no h])
 by_cases c1 : np < 1
 ·obtain rfl : E = 5 := HNO.out (by rw [Unt.okB, ← HNP.out]; simp; omega)
  obtain rfl : np = 0 := by omega
  go_enter Tryz.func12, Tryz.ntmps12
  go_wp2_with fail
  go_ret
  exact ⟨rfl, Below.one _ _⟩
 by_cases c2 : 1000 < np
 ·obtain rfl : E = 5 := HNO.out (by rw [Unt.okB, ← HNP.out]; simp; omega)
  go_enter Tryz.func12, Tryz.ntmps12
  go_wp2_with fail
  go_ret
  exact ⟨rfl, Below.one _ _⟩
 obtain ⟨rc, hrc⟩ : ∃ rc, u.consts.any (fun x => !Dat.right x 0) = rc := ⟨_, rfl⟩
 have HRC := Lib.hid hrc
 have HC := Lib.hid (fun X => containsFunc_S 30 #[] (fun x => !Dat.right x 0) rc u.consts (.slice ok nk ck) B (w.alloc X) (HCS.out.kept ((Below.one w X).mono hB)) (by simp; omega) (fun _ _ => rfl) (fun x _ v W hr hbW => by
  exact check1_to x v B W hr (by have := hbW.size; simp at this; omega)) HRC.out)
 clear hrc
 have c1' : ¬ (np : Int) < 1 := by omega
 have HB0 := Lib.hid (Below.refl (w.heap.size + 1) (w.alloc (.cells #[.slice ok nk ck, .slice op np cp] 25)))
 go_enter Tryz.func12, Tryz.ntmps12
 go_wp2_with fail
 refine (HC.out _).mono ?_
 rintro e w1 ⟨rfl, hb1⟩
 have HB1 := Lib.hid (HB0.out.trans (hb1.mono (by simp)))
 clear hb1 HC
 cases rc with
 | true =>
  obtain rfl : E = 5 := HNO.out (by
   have h1 := HRC.out
   rw [← List.not_all_eq_any_not] at h1
   have h2 : u.consts.all (fun x => Dat.right x 0) = false := by simpa using h1
   rw [Unt.okB, h2]; simp)
  go_wp2_with fail
  go_ret
  exact ⟨rfl, (Below.one w _).trans (HB1.out.mono (by omega))⟩
 | false =>
  have HOK := Lib.hid (show u.okB = Unt.procsB nk np u.procs 0 from by
   have h1 := HRC.out
   rw [← List.not_all_eq_any_not] at h1
   have h2 : u.consts.all (fun x => Dat.right x 0) = true := by simpa using h1
   rw [Unt.okB, h2, ← HNP.out, ← HNK.out, decide_eq_true (show 1 ≤ (np : Int) by omega), decide_eq_true (show (np : Int) ≤ 1000 by omega)]; simp)
  have bu1 : BoxL w1 w.heap.size 25 [.slice ok nk ck, .slice op np cp] := (HB1.out.block _ (by omega)).trans (BoxL.new rfl _ _)
  have q1 := bu1.cell 1 rfl
  have hlt1 := bu1.lt
  clear bu1
  go_wp2_with fail
  go_loopg [3, 26] np (fun g a i wr => ∃ (j : Nat) (all : Int), g = np - j ∧ j ≤ np ∧ a = .int .i64 all ∧ i = .int .i64 j ∧ 0 ≤ all ∧ all ≤ 50000 ∧ Hid (Unt.procsB nk np u.procs 0 = Unt.procsB nk np (u.procs.drop j) all) ∧ Hid (Below (w.heap.size + 1) (w.alloc (.cells #[.slice ok nk ck, .slice op np cp] 25)) wr))
  case atStart => exact ⟨0, 0, rfl, by omega, rfl, rfl, by omega, by omega, rfl, HB1⟩
  case round =>
   obtain ⟨j, all, rfl, hj, rfl, rfl, ha0, ha1, HS, HB⟩ := hrel
   have bu : BoxL wr w.heap.size 25 [.slice ok nk ck, .slice op np cp] := (HB.out.block _ (by omega)).trans (BoxL.new rfl _ _)
   have hlt := bu.lt
   have HBU := Lib.hid bu
   have HBW := Lib.hid (show Below w.heap.size w wr from (Below.one w _).trans (HB.out.mono (by omega)))
   clear bu q1
   by_cases hjl : j < np
   ·obtain ⟨p, hx⟩ : ∃ p, u.procs[j]? = some p := ⟨_, List.getElem?_eq_getElem (by rw [← HNP.out]; exact hjl)⟩
    obtain ⟨b1, off1, cs, ho1, hbB, hcl, hcell, hpr⟩ := HP.out.at (HBW.out.mono hB) hx
    subst ho1
    have HSTEP := Lib.hid (HS.out.trans (procsB_step hx))
    obtain ⟨args, rest, regs, code, alive⟩ := p
    obtain ⟨sl, al, rfl, hbargs, hbregs, hcode, halive⟩ := hpr
    obtain ⟨oc, n, cc, rfl, hn, hcapc, hmaxc⟩ := hcode.slice
    obtain ⟨oa, la, ca, rfl⟩ := halive.form
    dsimp only at hn hbargs hbregs HSTEP hcode
    have e0 := hcell 0 _ rfl
    have e1 := hcell 1 _ rfl
    have e2 := hcell 2 _ rfl
    have e3 := hcell 3 _ rfl
    have e4 := hcell 4 _ rfl
    rw [Nat.add_zero] at e0
    have HN := Lib.hid hn
    have HCODE := Lib.hid hcode
    have HBN := Lib.hid (fun X => (Below.one wr X))
    clear hx hcell hcl hcode halive hn
    have HEND := Lib.hid (show (∀ h : Unt.procsB nk np (u.procs.drop j) all = false, E = 5) from fun h => HNO.out (by rw [HOK.out, HS.out]; exact h))
    have HEND2 := Lib.hid (show (∀ h : Unt.headB ⟨args, rest, regs, code, alive⟩ = false, E = 5) from fun h => HNO.out (by rw [HOK.out, HSTEP.out, h]; rfl))
    have HLN := Lib.hid (show (code.length : Int) = n from by rw [HN.out])
    by_cases h1 : args < 0
    ·obtain rfl : E = 5 := HEND2.out (by simp [Unt.headB, h1])
     go_wp2_with fail
     go_ret
     exact ⟨rfl, HBW.out.alloc (by have := HBW.out.size; omega) _⟩
    by_cases h2 : regs < args
    ·obtain rfl : E = 5 := HEND2.out (by simp [Unt.headB, h2])
     go_wp2_with fail
     go_ret
     exact ⟨rfl, HBW.out.alloc (by have := HBW.out.size; omega) _⟩
    by_cases h3 : 20000 < regs
    ·obtain rfl : E = 5 := HEND2.out (by simp [Unt.headB, h3])
     go_wp2_with fail
     go_ret
     exact ⟨rfl, HBW.out.alloc (by have := HBW.out.size; omega) _⟩
    by_cases h4 : rest = true ∧ args = 0
    ·obtain ⟨rfl, rfl⟩ := h4
     obtain rfl : E = 5 := HEND2.out (by simp [Unt.headB])
     go_wp2_with fail
     go_ret
     exact ⟨rfl, HBW.out.alloc (by have := HBW.out.size; omega) _⟩
    by_cases h5 : n = 0
    ·subst h5
     obtain rfl : E = 5 := HEND2.out (by have := HLN.out; simp [Unt.headB, this])
     cases rest with
     | true =>
      have h4' : (args == 0) = false := by simpa using fun h => h4 ⟨rfl, h⟩
      go_wp2_with fail
      go_ret
      exact ⟨rfl, HBW.out.alloc (by have := HBW.out.size; omega) _⟩
     | false =>
      go_wp2_with fail
      go_ret
      exact ⟨rfl, HBW.out.alloc (by have := HBW.out.size; omega) _⟩
    by_cases h6 : 50000 < n
    ·obtain rfl : E = 5 := HEND2.out (by have := HLN.out; simp [Unt.headB, this]; omega)
     cases rest with
     | true =>
      have h4' : (args == 0) = false := by simpa using fun h => h4 ⟨rfl, h⟩
      go_wp2_with fail
      go_ret
      exact ⟨rfl, HBW.out.alloc (by have := HBW.out.size; omega) _⟩
     | false =>
      go_wp2_with fail
      go_ret
      exact ⟨rfl, HBW.out.alloc (by have := HBW.out.size; omega) _⟩
    have HH := Lib.hid (show Unt.headB ⟨args, rest, regs, code, alive⟩ = true from by
     have h7 := HLN.out
     have h8 : ¬ (code.length : Int) = 0 := by omega
     have h9 : ¬ (50000 : Int) < code.length := by omega
     have hra : (rest && decide (args = 0)) = false := by cases rest <;> simp; intro h; exact h4 ⟨rfl, h⟩
     simp only [Unt.headB, decide_eq_false h1, decide_eq_false h2, decide_eq_false h3, decide_eq_false h8, decide_eq_false h9, hra]; rfl)
    have d1 : decide (args < 0) = false := decide_eq_false h1
    have d2 : decide (regs < args) = false := decide_eq_false h2
    have d3 : decide (20000 < regs) = false := decide_eq_false h3
    have d5 : ((n : Int) == 0) = false := by simpa using h5
    have d6 : decide ((50000 : Int) < (n : Int)) = false := decide_eq_false (by omega)
    obtain ⟨x, hx⟩ : ∃ x, code[n - 1]? = some x := ⟨_, List.getElem?_eq_getElem (by rw [← HN.out]; omega)⟩
    obtain ⟨bc, offc, ds, hoc, hbc, hdl, hdcell, hins⟩ := HCODE.out.at (HBW.out.mono hB) hx
    subst hoc
    obtain ⟨kk, dd, aa, bb, ll⟩ := x
    obtain ⟨sl, rfl, hbk, _, _, _, _⟩ := hins
    have k0 := hdcell 0 _ rfl
    rw [Nat.add_zero] at k0
    dsimp only at k0 hbk
    have HLO := Lib.hid (show Unt.lastOp code = kk from lastOp_at HN.out hx)
    have hkl := cell_lt k0
    have hnpos : 0 < n := by omega
    clear hx hdcell hdl
    have HEND3 := Lib.hid (show (∀ h : (decide (all + n ≤ 50000) && (Unt.lastB kk)) = false, E = 5) from fun h => HNO.out (by
     rw [HOK.out, HSTEP.out, HLN.out, HLO.out, HH.out]
     rcases Bool.and_eq_false_iff.1 h with h | h <;> rw [h] <;> simp))
    by_cases h7 : 50000 < all + n
    ·obtain rfl : E = 5 := HEND3.out (by rw [decide_eq_false (by omega)]; rfl)
     have d7 : decide ((50000 : Int) < all + n) = true := decide_eq_true h7
     cases rest with
     | true =>
      have h4' : (args == 0) = false := by simpa using fun h => h4 ⟨rfl, h⟩
      go_wp2_with fail
      all_goals go_ret
      all_goals exact ⟨rfl, HBW.out.alloc (by have := HBW.out.size; omega) _⟩
     | false =>
      go_wp2_with fail
      all_goals go_ret
      all_goals exact ⟨rfl, HBW.out.alloc (by have := HBW.out.size; omega) _⟩
    have h7' : all + n ≤ 50000 := by omega
    have d7 : decide ((50000 : Int) < all + n) = false := decide_eq_false h7
    by_cases h8 : kk ≠ 15 ∧ (kk < 19 ∨ 22 < kk)
    ·obtain rfl : E = 5 := HEND3.out (by rw [decide_eq_true h7']; simp [Unt.lastB]; omega)
     obtain ⟨h8a, h8b⟩ := h8
     have h8c : (kk != 15) = true := by simpa using h8a
     by_cases h8d : kk < 19
     ·have h8e : decide (kk < 19) = true := decide_eq_true h8d
      cases rest with
      | true =>
       have h4' : (args == 0) = false := by simpa using fun h => h4 ⟨rfl, h⟩
       go_wp2_with fail
       all_goals go_ret
       all_goals exact ⟨rfl, HBW.out.alloc (by have := HBW.out.size; omega) _⟩
      | false =>
       go_wp2_with fail
       all_goals go_ret
       all_goals exact ⟨rfl, HBW.out.alloc (by have := HBW.out.size; omega) _⟩
     ·have h8e : decide (kk < 19) = false := decide_eq_false h8d
      have h8f : decide (22 < kk) = true := decide_eq_true (by omega)
      cases rest with
      | true =>
       have h4' : (args == 0) = false := by simpa using fun h => h4 ⟨rfl, h⟩
       go_wp2_with fail
       all_goals go_ret
       all_goals exact ⟨rfl, HBW.out.alloc (by have := HBW.out.size; omega) _⟩
      | false =>
       go_wp2_with fail
       all_goals go_ret
       all_goals exact ⟨rfl, HBW.out.alloc (by have := HBW.out.size; omega) _⟩
    have HLB := Lib.hid (show Unt.lastB kk = true from by simp [Unt.lastB]; omega)
    have HW8 := Lib.hid h8
    clear h8
    obtain ⟨rf, hrf⟩ : ∃ rf, code.any (fun x => !Unt.fits x regs n np nk) = rf := ⟨_, rfl⟩
    have HRF := Lib.hid hrf
    clear hrf
    have HNEXT := Lib.hid (show (rf = true → E = 5) ∧ (rf = false → Unt.procsB nk np u.procs 0 = Unt.procsB nk np (u.procs.drop (j + 1)) (all + n)) from by
     have h1 := HRF.out
     rw [← List.not_all_eq_any_not] at h1
     have h2 := HSTEP.out
     rw [HLN.out, HLO.out, HH.out, HLB.out, decide_eq_true h7'] at h2
     constructor
     ·rintro rfl
      refine HNO.out (by rw [HOK.out, h2]; simp only [Bool.not_eq_true'] at h1; rw [h1]; rfl)
     ·rintro rfl
      have h3 : (code.all fun x => Unt.fits x regs n np nk) = true := by simpa using h1
      rw [h2, h3]; rfl)
    have hW1 : ∀ X, Below B w (wr.alloc X) := fun X => (HBW.out.mono hB).trans ((Below.one wr X).mono (by have := HBW.out.size; omega))
    have HCF := Lib.hid (containsG_ins (InsR w B) 33 #[.pointer (some ⟨wr.heap.size, 0, none⟩), .pointer (some ⟨w.heap.size, 0, none⟩)] (fun x => !Unt.fits x regs n np nk) rf code (.slice (some ⟨bc, offc, none⟩) n cc) B (wr.alloc (.cells [.int .i64 args, .bool rest, .int .i64 regs, .slice (some ⟨bc, offc, none⟩) n cc, .slice oa la ca].toArray 31)) (HCODE.out.kept (hW1 _) fun _ _ _ h => h) (by have := HBW.out.size; simp; omega) (fun _ _ => rfl) (fun x _ c0 c1 c2 c3 c4 W hR hbW => check2_to x c0 c1 c2 c3 c4 args regs rest (some ⟨bc, offc, none⟩) oa ok (some ⟨b1, off1, none⟩) n cc la ca nk ck np cp B wr.heap.size w.heap.size W (hR.kept ((hW1 _).trans (hbW.mono (by have := HBW.out.size; simp; omega)))) (by have := hbW.size; have := HBW.out.size; simp at *; omega) ((BoxL.new rfl _ _).keep hbW) ((HBU.out.alloc _).keep hbW)) HRF.out)
    clear hW1
    cases rest with
    | true =>
     have h4' : (args == 0) = false := by simpa using fun h => h4 ⟨rfl, h⟩
     have hk : (kk = 15) ∨ (kk ≠ 15 ∧ 19 ≤ kk ∧ kk ≤ 22) := by have := HW8.out; omega
     rcases hk with hk | ⟨hk, hk1, hk2⟩
     ·have e15 : (kk != 15) = false := by simpa using hk
      clear hk
      go_wp2_with fail
      refine HCF.out.mono ?_
      rintro e w2 ⟨rfl, hb2⟩
      have HB2 := Lib.hid (one_below hb2)
      clear hb2
      cases rf with
      | true =>
       obtain rfl : E = 5 := HNEXT.out.1 rfl
       go_wp2_with fail
       go_ret
       exact ⟨rfl, Below.next HBW.out HB2.out⟩
      | false =>
       have HPN := Lib.hid (HNEXT.out.2 rfl)
       go_wp2_with fail
       go_roundg (np - (j + 1))
       case measure => omega
       case rel => exact ⟨j + 1, all + n, rfl, by omega, rfl, by go_num, by omega, by omega, HPN, Lib.hid (HB.out.trans (HB2.out.mono (by omega)))⟩
     ·have e15 : (kk != 15) = true := by simpa using hk
      have e19 : decide (kk < 19) = false := decide_eq_false (by omega)
      have e22 : decide (22 < kk) = false := decide_eq_false (by omega)
      go_wp2_with fail
      refine HCF.out.mono ?_
      rintro e w2 ⟨rfl, hb2⟩
      have HB2 := Lib.hid (one_below hb2)
      clear hb2
      cases rf with
      | true =>
       obtain rfl : E = 5 := HNEXT.out.1 rfl
       go_wp2_with fail
       go_ret
       exact ⟨rfl, Below.next HBW.out HB2.out⟩
      | false =>
       have HPN := Lib.hid (HNEXT.out.2 rfl)
       go_wp2_with fail
       go_roundg (np - (j + 1))
       case measure => omega
       case rel => exact ⟨j + 1, all + n, rfl, by omega, rfl, by go_num, by omega, by omega, HPN, Lib.hid (HB.out.trans (HB2.out.mono (by omega)))⟩
    | false =>
     have hk : (kk = 15) ∨ (kk ≠ 15 ∧ 19 ≤ kk ∧ kk ≤ 22) := by have := HW8.out; omega
     rcases hk with hk | ⟨hk, hk1, hk2⟩
     ·have e15 : (kk != 15) = false := by simpa using hk
      clear hk
      go_wp2_with fail
      refine HCF.out.mono ?_
      rintro e w2 ⟨rfl, hb2⟩
      have HB2 := Lib.hid (one_below hb2)
      clear hb2
      cases rf with
      | true =>
       obtain rfl : E = 5 := HNEXT.out.1 rfl
       go_wp2_with fail
       go_ret
       exact ⟨rfl, Below.next HBW.out HB2.out⟩
      | false =>
       have HPN := Lib.hid (HNEXT.out.2 rfl)
       go_wp2_with fail
       go_roundg (np - (j + 1))
       case measure => omega
       case rel => exact ⟨j + 1, all + n, rfl, by omega, rfl, by go_num, by omega, by omega, HPN, Lib.hid (HB.out.trans (HB2.out.mono (by omega)))⟩
     ·have e15 : (kk != 15) = true := by simpa using hk
      have e19 : decide (kk < 19) = false := decide_eq_false (by omega)
      have e22 : decide (22 < kk) = false := decide_eq_false (by omega)
      go_wp2_with fail
      refine HCF.out.mono ?_
      rintro e w2 ⟨rfl, hb2⟩
      have HB2 := Lib.hid (one_below hb2)
      clear hb2
      cases rf with
      | true =>
       obtain rfl : E = 5 := HNEXT.out.1 rfl
       go_wp2_with fail
       go_ret
       exact ⟨rfl, Below.next HBW.out HB2.out⟩
      | false =>
       have HPN := Lib.hid (HNEXT.out.2 rfl)
       go_wp2_with fail
       go_roundg (np - (j + 1))
       case measure => omega
       case rel => exact ⟨j + 1, all + n, rfl, by omega, rfl, by go_num, by omega, by omega, HPN, Lib.hid (HB.out.trans (HB2.out.mono (by omega)))⟩
   ·obtain rfl : j = np := by omega
    have HT := Lib.hid (show u.okB = true from by rw [HOK.out, HS.out, List.drop_eq_nil_of_le (by rw [← HNP.out]; exact Nat.le_refl _)]; rfl)
    obtain rfl : E = 0 := by rw [← HE.out, err_ok HT.out]
    go_wp2_with fail
    go_ret
    exact ⟨rfl, HBW.out⟩
end
end Go.Proofs.YtigkhmppnnljiaaGreatDoor

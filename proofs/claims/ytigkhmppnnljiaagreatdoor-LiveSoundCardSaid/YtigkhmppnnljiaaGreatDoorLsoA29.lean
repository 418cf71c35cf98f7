/-
  What the proofs lean on: LawsL, ChkE, MkShape.
-/
import Derived.Deep.LoopGhost
import Derived.Deep.QuietTactic
import Derived.BigQuiet
import Derived.Maps.Own
import Derived.Maps.OwnOps
import Derived.Maps.Views
import Derived.Maps.OwnSet
import Derived.WideKeyEntry
import Derived.Deep.Cut
import Derived.Deep.CutRange
import Derived.Deep.DeepCutAuto
import Derived.Test.YtigkhmppnnljiaaGreatDoorLsoA05
import Derived.Test.YtigkhmppnnljiaaGreatDoorLsoA09
import Derived.Test.YtigkhmppnnljiaaGreatDoorLsoA12
import Derived.Test.YtigkhmppnnljiaaGreatDoorLsoA13
import Derived.Test.YtigkhmppnnljiaaGreatDoorLsoA20
import Derived.Test.YtigkhmppnnljiaaGreatDoorLsoA21
import Derived.Test.YtigkhmppnnljiaaGreatDoorLsoA27
import Derived.Test.YtigkhmppnnljiaaGreatDoorLsoA28
set_option maxRecDepth 100000
set_option maxHeartbeats 16000000
namespace Go.Proofs.YtigkhmppnnljiaaGreatDoor
section
open Go.RowKit
theorem take_snoc_eq {l l' : List Int} {j : Nat} {x : Int} (h : l[j]? = some x) (h' : l'[j]? = some x) (ht : l.take j = l'.take j) : l.take (j + 1) = l'.take (j + 1) := by
 rw [List.take_add_one, List.take_add_one, h, h', ht]
theorem ints06_any (l l' : List Int) (sl sl' : Value) (B : Nat) (w : World) (hv : SlC w B 1 IntR l sl) (hv' : SlC w B 1 IntR l' sl') (r : Bool) (hr : decide (l = l') = r) :
  Calls Tryz.prog 48 #[sl, sl'] w fun e w' => e = .returned (.bool r) ∧ ∃ nd, w' = w.drewN nd := by
 obtain ⟨o, n, c, rfl⟩ := hv.form
 obtain ⟨o', n', c', rfl⟩ := hv'.form
 obtain ⟨hn, hc, hm⟩ := hv.lens
 obtain ⟨hn', hc', hm'⟩ := hv'.lens
 have HV := Lib.hid hv
 have HV' := Lib.hid hv'
 have HN := Lib.hid hn
 have HN' := Lib.hid hn'
 have HR := Lib.hid hr
 by_cases hne : n = n'
 ·clear hv hv' hr hn hn'
  subst hne
  have d0 : ((n : Int) != (n : Int)) = false := by simp
  go_enter Tryz.func48, Tryz.ntmps48
  go_wp2_with fail
  go_loopg [5] n (fun g i wr => ∃ j : Nat, g = n - j ∧ j ≤ n ∧ i = .int .i64 j ∧ Hid (l.take j = l'.take j) ∧ ∃ nd, wr = w.drewN nd)
  case atStart => exact ⟨0, rfl, by omega, rfl, rfl, 0, rfl⟩
  case round =>
   obtain ⟨j, rfl, hj, rfl, HT, nd, rfl⟩ := hrel
   by_cases hjl : j < n
   ·obtain ⟨x, hx⟩ : ∃ x, l[j]? = some x := ⟨_, List.getElem?_eq_getElem (by rw [← HN.out]; exact hjl)⟩
    obtain ⟨y, hy⟩ : ∃ y, l'[j]? = some y := ⟨_, List.getElem?_eq_getElem (by rw [← HN'.out]; exact hjl)⟩
    obtain ⟨b1, off1, cs, ho1, _, _, hcell, hR⟩ := HV.out.at (Below.refl _ _) hx
    obtain ⟨b2, off2, ds, ho2, _, _, hdell, hR'⟩ := HV'.out.at (Below.refl _ _) hy
    subst ho1 ho2
    obtain ⟨rfl, _⟩ := hR
    obtain ⟨rfl, _⟩ := hR'
    have e0 := hcell 0 _ rfl
    have f0 := hdell 0 _ rfl
    rw [Nat.mul_one, Nat.add_zero] at e0 f0
    have HX := Lib.hid hx
    have HY := Lib.hid hy
    clear hx hy hcell hdell
    by_cases hxy : x = y
    ·subst hxy
     have g0 : ((x : Int) != x) = false := by simp
     have HT2 := Lib.hid (take_snoc_eq HX.out HY.out HT.out)
     go_wp2_with fail
     go_quiet (fail)
     go_wp2_with fail
     go_roundg (n - (j + 1))
     case measure => omega
     case rel => exact ⟨j + 1, rfl, by omega, by go_num, HT2, _, rfl⟩
    ·have g0 : (x != y) = true := by simpa using hxy
     obtain rfl : r = false := by
      rw [← HR.out]
      refine decide_eq_false fun e => hxy ?_
      have h1 := HX.out
      rw [e, HY.out] at h1
      exact (Option.some.inj h1).symm
     go_wp2_with fail
     go_quiet (fail)
     go_wp2_with fail
     go_ret
     exact ⟨rfl, nd + nq, World.drewN_drewN _ _ _⟩
   ·obtain rfl : j = n := by omega
    obtain rfl : r = true := by
     rw [← HR.out]
     refine decide_eq_true ?_
     have h1 := HT.out
     rwa [List.take_of_length_le (by rw [← HN.out]; exact Nat.le_refl _), List.take_of_length_le (by rw [← HN'.out]; exact Nat.le_refl _)] at h1
    go_wp2_with fail
    go_ret
    exact ⟨rfl, _, rfl⟩
 ·obtain rfl : r = false := by
   rw [← hr]
   exact decide_eq_false fun e => hne (by rw [hn, hn', e])
  have d0 : ((n : Int) != (n' : Int)) = true := by simpa using fun e => hne (by omega)
  clear hv hv' hr hn hn'
  go_enter Tryz.func48, Tryz.ntmps48
  go_wp2_with fail
  go_ret
  exact ⟨rfl, 0, rfl⟩
end
section
open Go.RowKit
theorem few16_any (u : Unt) (v : Value) (n : Int) (B : Nat) (w : World) (hv : UntR w B u v) (hB : B ≤ w.heap.size) (h0 : 0 ≤ n) (h1 : n ≤ 1000) (r : Bool) (hr : Unt.fewB u n n = r) :
  Calls Tryz.prog 21 #[v, .int .i64 n] w fun e w' => e = .returned (.bool r) ∧ Below w.heap.size w w' := by
 obtain ⟨cv, pv, rfl, hc, hp⟩ := hv
 obtain ⟨op, np, cp, rfl, hnp, hcapp, hmaxp⟩ := hp.slice
 have HCS := Lib.hid hc
 obtain ⟨ok, nk, ck, rfl, hnk, hcapk, hmaxk, hcc⟩ := hc
 have HP := Lib.hid hp
 have HNP := Lib.hid hnp
 clear hcc hp hnk
 by_cases c1 : 30 < np
 ·obtain rfl : false = r := by rw [← hr, Unt.fewB, ← HNP.out, decide_eq_true (show (30 : Int) < np by omega)]; rfl
  have d1 : decide ((30 : Int) < (np : Int)) = true := decide_eq_true (by omega)
  clear hr hnp
  go_enter Tryz.func21, Tryz.ntmps21
  go_wp2_with fail
  all_goals go_ret
  all_goals exact ⟨rfl, Below.one _ _⟩
 have d1 : decide ((30 : Int) < (np : Int)) = false := decide_eq_false (by omega)
 obtain ⟨q, hq⟩ : ∃ q, decide ((Dat.allL u.consts : Int) ≤ 2000) = q := ⟨_, rfl⟩
 have HR := Lib.hid (show (q && Unt.fewP n n u.procs 0) = r from by rw [← hr, Unt.fewB, ← HNP.out, d1, hq]; rfl)
 have HC := Lib.hid (fun X => rfewAll_to u.consts (.slice ok nk ck) 2000 B (w.alloc X) (HCS.out.kept ((Below.one w X).mono hB)) (by simp; omega) (by omega) (by omega) q hq)
 have HB0 := Lib.hid (Below.refl (w.heap.size + 1) (w.alloc (.cells #[.slice ok nk ck, .slice op np cp] 25)))
 clear hr hq hnp
 go_enter Tryz.func21, Tryz.ntmps21
 go_wp2_with fail
 refine (HC.out _).mono ?_
 rintro e w1 ⟨rfl, hb1⟩
 have HB1 := Lib.hid (one_below hb1)
 have bu1 : BoxL w1 w.heap.size 25 [.slice ok nk ck, .slice op np cp] := (BoxL.new rfl _ _).keep hb1
 have u1 := bu1.cell 1 rfl
 have hlt1 := bu1.lt
 clear hb1 HC bu1 HB0
 cases q with
 | false =>
  obtain rfl : r = false := by rw [← HR.out]; rfl
  go_wp2_with fail
  all_goals go_ret
  all_goals exact ⟨rfl, HB1.out⟩
 | true =>
  have HF := Lib.hid (show Unt.fewP n n u.procs 0 = r from by rw [← HR.out]; rfl)
  go_wp2_with fail
  go_loopg [5, 6] np (fun g a i wr => ∃ (j : Nat) (k : Int), g = np - j ∧ j ≤ np ∧ a = .int .i64 k ∧ i = .int .i64 j ∧ 0 ≤ k ∧ k ≤ n ∧ Hid (Unt.fewP n n u.procs 0 = Unt.fewP n n (u.procs.drop j) k) ∧ w1 = wr)
  case atStart => exact ⟨0, 0, rfl, by omega, rfl, rfl, by omega, by omega, rfl, rfl⟩
  case round =>
   obtain ⟨j, k, rfl, hj, rfl, rfl, hk0, hk1, HS, rfl⟩ := hrel
   by_cases hjl : j < np
   ·obtain ⟨p, hx⟩ : ∃ p, u.procs[j]? = some p := ⟨_, List.getElem?_eq_getElem (by rw [← HNP.out]; exact hjl)⟩
    obtain ⟨b1, off1, cs, ho1, hbB, hcl, hcell, hpr⟩ := HP.out.at (HB1.out.mono hB) hx
    subst ho1
    have HST := Lib.hid (fewP_step (n := n) (rg := n) (k := k) hx)
    obtain ⟨args, rest, regs, code, alive⟩ := p
    obtain ⟨sl, al, rfl, hbargs, hbregs, hcode, halive⟩ := hpr
    obtain ⟨oc, m, cc, rfl⟩ := hcode.form
    obtain ⟨hm, hcapc, hmaxc⟩ := hcode.lens
    obtain ⟨oa, la, ca, rfl⟩ := halive.form
    dsimp only at hm hbregs HST hcode
    have e2 := hcell 2 _ rfl
    have e3 := hcell 3 _ rfl
    have HM := Lib.hid (show (code.length : Int) = m from by rw [hm])
    have HMN := Lib.hid hm
    have HCODE := Lib.hid hcode
    rw [HM.out] at HST
    clear hx hcell hcl hcode halive hm hbargs
    by_cases a1 : n < (m : Int)
    ·have f1 : decide (n < (m : Int)) = true := decide_eq_true a1
     obtain rfl : r = false := by rw [← HF.out, HS.out, HST.out]; simp [a1]
     go_wp2_with fail
     all_goals go_ret
     all_goals exact ⟨rfl, HB1.out⟩
    have f1 : decide (n < (m : Int)) = false := decide_eq_false a1
    by_cases a2 : n < regs
    ·have f2 : decide (n < regs) = true := decide_eq_true a2
     obtain rfl : r = false := by rw [← HF.out, HS.out, HST.out]; simp [a2]
     go_wp2_with fail
     all_goals go_ret
     all_goals exact ⟨rfl, HB1.out⟩
    have f2 : decide (n < regs) = false := decide_eq_false a2
    have hm1000 : m ≤ 1000 := by omega
    go_wp2_with fail
    go_loopg [7] m (fun g i wr => ∃ q : Nat, g = m - q ∧ q ≤ m ∧ i = .int .i64 q ∧ Hid ((code.take q).all (fun x => decide (x.l.length ≤ 60)) = true) ∧ w1 = wr)
    case atStart => exact ⟨0, rfl, by omega, rfl, rfl, rfl⟩
    case round =>
     obtain ⟨q, rfl, hq, rfl, HA, rfl⟩ := hrel
     by_cases hql : q < m
     ·obtain ⟨x, hx⟩ : ∃ x, code[q]? = some x := ⟨_, List.getElem?_eq_getElem (by rw [← HMN.out]; exact hql)⟩
      obtain ⟨b2, off2, ds, ho2, hb2B, hdl, hdcell, hins⟩ := HCODE.out.at (HB1.out.mono hB) hx
      subst ho2
      obtain ⟨sl, rfl, _, _, _, _, hsl⟩ := hins
      obtain ⟨o4, l4, c4, rfl⟩ := hsl.form
      have g4 := hdcell 4 _ rfl
      have HL4 := Lib.hid hsl.lens.1
      have HX := Lib.hid hx
      clear hx hdcell hdl hsl
      by_cases a3 : 60 < l4
      ·have f3 : decide ((60 : Int) < (l4 : Int)) = true := decide_eq_true (by omega)
       obtain rfl : r = false := by
        have h3 : code.all (fun x => decide (x.l.length ≤ 60)) = false := by
         rw [List.all_eq_false]
         exact ⟨x, List.mem_of_getElem? HX.out, by have := HL4.out; simp; omega⟩
        rw [← HF.out, HS.out, HST.out, h3]; simp
       go_wp2_with fail
       all_goals go_ret
       all_goals exact ⟨rfl, HB1.out⟩
      ·have f3 : decide ((60 : Int) < (l4 : Int)) = false := decide_eq_false (by omega)
       have HA2 := Lib.hid (show (code.take (q + 1)).all (fun x => decide (x.l.length ≤ 60)) = true from by
        rw [List.take_add_one, HX.out]
        have := HL4.out
        simp [List.all_append, HA.out]; omega)
       go_wp2_with fail
       go_roundg (m - (q + 1))
       case measure => omega
       case rel => exact ⟨q + 1, rfl, by omega, by go_num, HA2, rfl⟩
     ·obtain rfl : q = m := by omega
      have HAL := Lib.hid (show code.all (fun x => decide (x.l.length ≤ 60)) = true from by rw [← HA.out, List.take_of_length_le (by rw [← HMN.out]; exact Nat.le_refl _)])
      by_cases a4 : n < k + q
      ·have f4 : decide (n < k + (q : Int)) = true := decide_eq_true a4
       obtain rfl : r = false := by rw [← HF.out, HS.out, HST.out]; simp [a4]
       go_wp2_with fail
       all_goals go_ret
       all_goals exact ⟨rfl, HB1.out⟩
      ·have f4 : decide (n < k + (q : Int)) = false := decide_eq_false a4
       have HS2 := Lib.hid (show Unt.fewP n n u.procs 0 = Unt.fewP n n (u.procs.drop (j + 1)) (k + q) from by rw [HS.out, HST.out, HAL.out, f1, f2, f4]; rfl)
       go_wp2_with fail
       go_roundg (np - (j + 1))
       case measure => omega
       case rel => exact ⟨j + 1, k + q, rfl, by omega, rfl, by go_num, by omega, by omega, HS2, rfl⟩
   ·obtain rfl : j = np := by omega
    obtain rfl : r = true := by rw [← HF.out, HS.out, List.drop_eq_nil_of_le (by rw [← HNP.out]; exact Nat.le_refl _)]; rfl
    go_wp2_with fail
    all_goals go_ret
    all_goals exact ⟨rfl, HB1.out⟩
end
section
open Go.RowKit
theorem slC_of_box {α : Type} {w : World} {B b size n : Nat} {te : TypeId} {R : α → List Value → Prop} {l : List α} {cs : List Value} (hb : BoxL w b te cs) (hB : b < B) (hc : CellsG size R l cs) (hn : n = l.length) (hm : n ≤ 1000000) : SlC w B size R l (.slice (some ⟨b, 0, none⟩) n n) := by
 refine ⟨_, n, n, rfl, hn, Nat.le_refl _, by omega, fun _ => ⟨rfl, hB⟩, fun i x hx => ?_⟩
 obtain ⟨cs', h1, h2, h3⟩ := hc.at hx
 exact ⟨cs', h1, fun j u hj => by have := h3 j u hj; simpa using hb.cell _ this, h2⟩
theorem ints_nil (w : World) (B : Nat) : SlC w B 1 IntR [] (.slice none 0 0) := ⟨none, 0, 0, rfl, rfl, by omega, by omega, rfl, rfl⟩
def code16 : List Ins := [⟨0, 1, 0, 0, []⟩, ⟨9, 2, 0, 0, [0, 1]⟩, ⟨22, 0, 2, 0, []⟩]
def unit16 : Unt := ⟨[.mk 0 1 1 ⟨#[]⟩ []], [⟨1, false, 3, code16, []⟩]⟩
theorem ok16 : unit16.okB = true := by decide +kernel
theorem short16 : Live.Short unit16 := by
 intro p hp
 obtain rfl : p = _ := by simpa [unit16] using hp
 refine ⟨by decide, fun x hx => ?_⟩
 simp only [code16, List.mem_cons, List.not_mem_nil, or_false] at hx
 rcases hx with rfl | rfl | rfl <;> decide
namespace Live
theorem need16_2 (r : Int) : Need code16 r 2 ↔ r = 2 := by
 rw [need_iff (x := ⟨22, 0, 2, 0, []⟩) rfl]
 simp [Unt.named, Peep.succs]
theorem need16_1 (r : Int) : Need code16 r 1 ↔ r = 0 ∨ r = 1 := by
 rw [need_iff (x := ⟨9, 2, 0, 0, [0, 1]⟩) rfl]
 simp [Unt.named, Peep.succs, Unt.gives, need16_2]
 omega
theorem need16_0 (r : Int) : Need code16 r 0 ↔ r = 0 := by
 rw [need_iff (x := ⟨0, 1, 0, 0, []⟩) rfl]
 simp [Unt.named, Peep.succs, Unt.gives, need16_1]
 omega
theorem live_of {code : List Ins} {R : Nat} {fr : List Nat} (q : Nat → Bool) (h : ∀ r : Nat, q r = true ↔ ∃ j ∈ fr, Need code r j) : live code R fr = ((List.range R).filter q).map (fun (q : Nat) => (q : Int)) := (live_filter h).symm
theorem after16 : afterL unit16 (0 : Nat) = [[0, 1], [2], []] := by
 rw [afterL_at (p := ⟨1, false, 3, code16, []⟩) (by rw [wrongE, ok16]; rfl) rfl]
 show [after code16 3 0, after code16 3 1, after code16 3 2] = _
 have h0 : after code16 3 0 = [0, 1] := by
  show live code16 3 [1] = _
  rw [live_of (fun r => decide (r = 0 ∨ r = 1)) (fun r => by simp [need16_1]; omega)]
  rfl
 have h1 : after code16 3 1 = [2] := by
  show live code16 3 [2] = _
  rw [live_of (fun r => decide (r = 2)) (fun r => by simp [need16_2]; omega)]
  rfl
 have h2 : after code16 3 2 = [] := by
  show live code16 3 [] = _
  rw [live_of (fun r => false) (fun r => by simp)]
  rfl
 rw [h0, h1, h2]
theorem begin16' : begin' code16 3 = [0] := by
 show live code16 3 [0] = _
 rw [live_of (fun r => decide (r = 0)) (fun r => by simp [need16_0])]
 rfl
theorem begin16 : beginL unit16 (0 : Nat) = [0] := by
 rw [beginL_at (p := ⟨1, false, 3, code16, []⟩) (by rw [wrongE, ok16]; rfl) rfl]
 exact begin16'
theorem sound16 : soundB unit16 = true := by
 rw [soundB, ok16]
 show (procSound ⟨1, false, 3, code16, []⟩ && true) = true
 rw [procSound]
 show ((match (begin' code16 3).getLast? with | none => true | some r => decide (r < 1)) && true) = true
 rw [begin16']
 rfl
end Live
theorem awake16_any (w : World) : Calls Tryz.prog 20 #[] w fun e w' => e = .returned (.bool true) ∧ Below w.heap.size w w' := by
 go_enter Tryz.func20, Tryz.ntmps20
 go_upto_region 2 with fail
 obtain ⟨W, hW⟩ : ∃ W, (((((w.alloc (.cells #[.int .i64 0, .int .i64 1, .int .i64 1, .string ⟨#[]⟩, .slice none 0 0] 60)).alloc (.cells #[.int .i64 0, .int .i64 1] 3)).alloc (.cells #[.int .i64 0, .int .i64 1, .int .i64 0, .int .i64 0, .slice none 0 0, .int .i64 9, .int .i64 2, .int .i64 0, .int .i64 0, .slice (some ⟨w.heap.size + 1, 0, none⟩) 2 2, .int .i64 22, .int .i64 0, .int .i64 2, .int .i64 0, .slice none 0 0] 34)).alloc (.cells #[.int .i64 1, .bool false, .int .i64 3, .slice (some ⟨w.heap.size + 1 + 1, 0, none⟩) 3 3, .slice none 0 0] 31)).alloc (.cells #[.slice (some ⟨w.heap.size, 0, none⟩) 1 1, .slice (some ⟨w.heap.size + 1 + 1 + 1, 0, none⟩) 1 1] 25)) = W := ⟨_, rfl⟩
 have HU := Lib.hid (show UntR W W.heap.size unit16 (.agg #[.slice (some ⟨w.heap.size, 0, none⟩) 1 1, .slice (some ⟨w.heap.size + 1 + 1 + 1, 0, none⟩) 1 1]) from by
  have h0 : BoxL W w.heap.size 60 [.int .i64 0, .int .i64 1, .int .i64 1, .string ⟨#[]⟩, .slice none 0 0] := by rw [← hW]; exact (((((BoxL.new rfl _ _).alloc _).alloc _).alloc _).alloc _)
  have h1 : BoxL W (w.heap.size + 1) 3 [.int .i64 0, .int .i64 1] := by rw [← hW]; exact ((((BoxL.new (by simp) _ _).alloc _).alloc _).alloc _)
  have h2 : BoxL W (w.heap.size + 1 + 1) 34 [.int .i64 0, .int .i64 1, .int .i64 0, .int .i64 0, .slice none 0 0, .int .i64 9, .int .i64 2, .int .i64 0, .int .i64 0, .slice (some ⟨w.heap.size + 1, 0, none⟩) 2 2, .int .i64 22, .int .i64 0, .int .i64 2, .int .i64 0, .slice none 0 0] := by rw [← hW]; exact (((BoxL.new (by simp) _ _).alloc _).alloc _)
  have h3 : BoxL W (w.heap.size + 1 + 1 + 1) 31 [.int .i64 1, .bool false, .int .i64 3, .slice (some ⟨w.heap.size + 1 + 1, 0, none⟩) 3 3, .slice none 0 0] := by rw [← hW]; exact ((BoxL.new (by simp) _ _).alloc _)
  have hi : SlC W W.heap.size 1 IntR [0, 1] (.slice (some ⟨w.heap.size + 1, 0, none⟩) 2 2) := slC_of_box h1 h1.lt (cellsG_ints (l := [0, 1]) (by simp [I64])) rfl (by omega)
  have hn := ints_nil W W.heap.size
  have hcode : SlC W W.heap.size 5 (InsR W W.heap.size) code16 (.slice (some ⟨w.heap.size + 1 + 1, 0, none⟩) 3 3) := slC_of_box h2 h2.lt
   ⟨[.int .i64 0, .int .i64 1, .int .i64 0, .int .i64 0, .slice none 0 0], _, rfl, rfl, ⟨_, rfl, by decide, by decide, by decide, by decide, hn⟩, [.int .i64 9, .int .i64 2, .int .i64 0, .int .i64 0, .slice (some ⟨w.heap.size + 1, 0, none⟩) 2 2], _, rfl, rfl, ⟨_, rfl, by decide, by decide, by decide, by decide, hi⟩, [.int .i64 22, .int .i64 0, .int .i64 2, .int .i64 0, .slice none 0 0], [], rfl, rfl, ⟨_, rfl, by decide, by decide, by decide, by decide, hn⟩, rfl⟩ rfl (by omega)
  refine ⟨_, _, rfl, ⟨_, 1, 1, rfl, rfl, by omega, by omega, fun _ => ⟨rfl, h0.lt⟩, ?_⟩, slC_of_box h3 h3.lt ⟨[.int .i64 1, .bool false, .int .i64 3, .slice (some ⟨w.heap.size + 1 + 1, 0, none⟩) 3 3, .slice none 0 0], [], rfl, rfl, ⟨_, _, rfl, by decide, by decide, hcode, ⟨none, 0, 0, rfl, rfl, by omega, by omega, rfl, rfl⟩⟩, rfl⟩ rfl (by omega)⟩
  show RepC W W.heap.size [.mk 0 1 1 ⟨#[]⟩ []] w.heap.size 0
  rw [RepC, RepC]
  exact ⟨⟨_, _, _, _, _, h0.cell 0 rfl, h0.cell 1 rfl, h0.cell 2 rfl, h0.cell 3 rfl, h0.cell 4 rfl, RepD.shut (by decide) (by decide) (by decide) (by decide) ⟨none, 0, 0, rfl, rfl, by omega, by omega, rfl, rfl⟩⟩, trivial⟩)
 have HBX := Lib.hid (show BoxL W (w.heap.size + 1 + 1 + 1 + 1) 25 [.slice (some ⟨w.heap.size, 0, none⟩) 1 1, .slice (some ⟨w.heap.size + 1 + 1 + 1, 0, none⟩) 1 1] from by rw [← hW]; exact BoxL.new (by simp) _ _)
 have HWB := Lib.hid (show Below w.heap.size w W from by
  rw [← hW]
  exact ((((Below.one w _).trans ((Below.one _ _).mono (by simp))).trans ((Below.one _ _).mono (by simp; omega))).trans ((Below.one _ _).mono (by simp; omega))).trans ((Below.one _ _).mono (by simp; omega)))
 rw [hW]
 have hw0 : Live.wrongE unit16 0 = 0 := by rw [Live.wrongE, ok16]; rfl
 have HA := Lib.hid (lafter_any unit16 _ 0 W.heap.size W HU.out (Nat.le_refl _) short16)
 rw [hw0, show Live.afterL unit16 0 = [[0, 1], [2], []] from Live.after16] at HA
 have U0 := HBX.out.cell 0 rfl
 have U1 := HBX.out.cell 1 rfl
 have hul := HBX.out.lt
 have HW0 := Lib.hid hw0
 have HSZ := Lib.hid HWB.out.size
 clear hW hw0
 go_wp2_with fail
 refine HA.out.mono ?_
 rintro e w1 ⟨sv, rfl, hs1, hb1⟩
 obtain ⟨o1, l1, c1, rfl⟩ := hs1.form
 obtain rfl : l1 = 3 := hs1.lens.1
 obtain ⟨b1, off1, cs, ho1, hb1B, hcl, hcell, sl0, rfl, hsl0⟩ := hs1.at (Below.refl _ _) (j := 0) rfl
 subst ho1
 obtain ⟨b2, off2, cs, ho2, hb2B, hcl2, hcell2, sl1, rfl, hsl1⟩ := hs1.at (Below.refl _ _) (j := 1) rfl
 simp only [Option.some.injEq, Addr.mk.injEq, and_true] at ho2
 obtain ⟨rfl, rfl⟩ := ho2
 have e0 := hcell 0 _ rfl
 have e1 := hcell2 0 _ rfl
 have HS0 := Lib.hid hsl0
 have HS1 := Lib.hid hsl1
 have HB1 := Lib.hid hb1
 have HC1 := Lib.hid hs1.lens.2
 have hcap := hs1.lens.2
 have V0 := (HBX.out.keep hb1).cell 0 rfl
 have V1 := (HBX.out.keep hb1).cell 1 rfl
 have hul1 := (HBX.out.keep hb1).lt
 have HG := Lib.hid (lbegin_any unit16 _ 0 W.heap.size w1 (HU.out.kept hb1) hb1.size short16)
 rw [HW0.out, show Live.beginL unit16 0 = [0] from Live.begin16] at HG
 clear hs1 hb1 hcl hcell hcl2 hcell2 hsl0 hsl1 HA U0 U1
 go_wp2_with fail
 refine HG.out.mono ?_
 rintro e w2 ⟨sv2, rfl, hs2, hb2⟩
 obtain ⟨o2, l2, c2, rfl⟩ := hs2.form
 have HS2 := Lib.hid hs2
 have HB2 := Lib.hid hb2
 have f0 : w2.cell? ⟨b1, off1, none⟩ = some sl0 := by simpa using keepC hb2 e0
 have f1 : w2.cell? ⟨b1, off1 + 1, none⟩ = some sl1 := by simpa using keepC hb2 e1
 have hbl := cell_lt f0
 obtain ⟨oa, la, ca, rfl⟩ := HS0.out.form
 obtain ⟨ob, lb, cb, rfl⟩ := HS1.out.form
 have HI := Lib.hid (fun (V : World) (hV : Below w2.heap.size w2 V) (l : List Int) (hl : ∀ x ∈ l, I64 x) (hn : l.length ≤ 1000) (sv : Value) (hsv : SlC w2 w2.heap.size 1 IntR l sv) => ints06_any l l sv (.slice (some ⟨V.heap.size, 0, none⟩) l.length l.length) (V.alloc (.cells (l.map (Value.int .i64)).toArray 3)).heap.size (V.alloc (.cells (l.map (Value.int .i64)).toArray 3)) ((hsv.kept (hV.trans ((Below.one V _).mono hV.size)) fun _ _ _ h => h).wider (by have := hV.size; simp; omega)) (intsNew rfl (by simp) 3 l hl l.length rfl (by omega)) true (by simp))
 have HK0 := Lib.hid (HI.out w2 (Below.refl _ _) [0, 1] (by simp [I64]) (by decide) _ (HS0.out.kept hb2 (fun _ _ _ h => h) |>.wider hb2.size))
 clear hs2 hb2 HG V0 V1 e0 e1
 go_wp2_with fail
 refine HK0.out.mono ?_
 rintro e w3 ⟨rfl, nd, hw3⟩
 have HB3 := Lib.hid (show Below w2.heap.size w2 w3 from by rw [hw3]; exact Below.drewN (Below.one w2 _) nd)
 have g1 := keepC HB3.out f1
 have hbl3 := cell_lt g1
 have HK1 := Lib.hid (HI.out w3 HB3.out [2] (by simp [I64]) (by decide) _ (HS1.out.kept HB2.out (fun _ _ _ h => h) |>.wider HB2.out.size))
 clear hw3 HK0 f0 f1
 go_wp2_with fail
 refine HK1.out.mono ?_
 rintro e w4 ⟨rfl, nd4, hw4⟩
 have HB4 := Lib.hid (show Below w2.heap.size w2 w4 from HB3.out.trans (by rw [hw4]; exact (Below.drewN (Below.one w3 _) nd4).mono HB3.out.size))
 have HK2 := Lib.hid (HI.out w4 HB4.out [0] (by simp [I64]) (by decide) _ HS2.out)
 clear hw4 HK1 g1
 go_wp2_with fail
 refine HK2.out.mono ?_
 rintro e w5 ⟨rfl, nd5, hw5⟩
 have HB5 := Lib.hid (show Below w2.heap.size w2 w5 from HB4.out.trans (by rw [hw5]; exact (Below.drewN (Below.one w4 _) nd5).mono HB4.out.size))
 have HW5 := Lib.hid (show Below W.heap.size W w5 from Below.next (Below.next HB1.out HB2.out) HB5.out)
 have V0 := (HBX.out.keep HW5.out).cell 0 rfl
 have V1 := (HBX.out.keep HW5.out).cell 1 rfl
 have hul5 := (HBX.out.keep HW5.out).lt
 have HSO := Lib.hid (lsound_any unit16 _ W.heap.size w5 (HU.out.kept HW5.out) HW5.out.size short16)
 rw [Live.sound16] at HSO
 clear hw5 HK2
 go_wp2_with fail
 refine HSO.out.mono ?_
 rintro e w6 ⟨rfl, hb6⟩
 have HB6 := Lib.hid (Below.next (Below.next HWB.out HW5.out) hb6)
 clear hb6 HSO
 go_wp2_with fail
 go_ret
 exact ⟨rfl, HB6.out⟩
end
section
open Go.RowKit
namespace Live
open Unt Peep
end Live
end
section
open Go Go.RowKit
theorem allL_append : ∀ (a b : List Trm), Trm.allL (a ++ b) = Trm.allL a + Trm.allL b
 | [], b => by simp [Trm.allL]
 | x :: a, b => by rw [List.cons_append, Trm.allL, allL_append a b, Trm.allL]; omega
theorem allL_snoc {l : List Trm} {j : Nat} {x : Trm} (h : l[j]? = some x) : Trm.allL (l.take (j + 1)) = Trm.allL (l.take j) + x.all := by
 rw [List.take_add_one, h, allL_append]; simp [Trm.allL]
theorem allLT_take (l : List Trm) (j : Nat) : Trm.allL (l.take j) ≤ Trm.allL l := by
 conv => rhs; rw [← List.take_append_drop j l, allL_append]
 omega
theorem newB_more {a b : List Int} (h : Trm.newB (fun _ => false) (a ++ b) = true) : Trm.newB (fun _ => false) a = true := by
 rw [Trm.newB_append, Bool.and_eq_true] at h; exact h.1
theorem wfL_split {nc nk : Int} {fr : Bool} {op : Int} (ho : op ≠ 9) {v : List Int} : ∀ (t : List Trm) (sc : Int → Bool), Trm.wfL nc nk fr op v t sc = (((t.take (t.length - 1)).all fun x => Trm.wf nc nk fr x sc) && ((t.drop (t.length - 1)).all fun x => Trm.wf nc nk fr x (Trm.addV sc v)))
 | [], sc => by simp [Trm.wfL]
 | [x], sc => by simp [Trm.wfL]
 | x :: y :: l, sc => by
  rw [Trm.wfL, if_neg ho, wfL_split ho (y :: l) sc]
  simp [Bool.and_assoc]
theorem wfL_fix {nc nk : Int} {fr : Bool} {v : List Int} : ∀ (t : List Trm) (sc : Int → Bool), Trm.wfL nc nk fr 9 v t sc = ((t.all fun x => Trm.wf nc nk fr x (Trm.addV sc v)) && ((t.take (t.length - 1)).all fun x => x.op == 19))
 | [], sc => by simp [Trm.wfL]
 | [x], sc => by simp [Trm.wfL]
 | x :: y :: l, sc => by
  rw [Trm.wfL, if_pos rfl, wfL_fix (y :: l) sc, Bool.eq_iff_iff]
  simp [and_assoc, and_left_comm]
end
section
namespace Mdl
open Unt (named gives)
def argsG (c : Cod) (r : Int) : Prop := 0 ≤ r ∧ r < c.v.length
theorem proc_piece {c : Cod} {nc nk : Int} {fr : Bool} (hw : Trm.wf nc nk fr c.body (Trm.addV (fun _ => false) c.v) = true) (hn : (c.v ++ c.body.bnd).Nodup) : Mk.FragE (argsG c) 0 (Mk.proc Mk.lkL c).code ∧ (c.v.length : Int) ≤ (Mk.proc Mk.lkL c).regs ∧ (Mk.proc Mk.lkL c).args = c.v.length ∧ (Mk.proc Mk.lkL c).rest = c.rest ∧ (Mk.proc Mk.lkL c).alive = [] := by
 obtain ⟨seg, h1, h2, h3⟩ := Mk.lays_into c.body.all c.body (Nat.le_refl _) nc nk fr (Trm.addV (fun _ => false) c.v) 0 true ⟨[], c.v.length, c.v.zip ((List.range c.v.length).map fun (i : Nat) => (i : Int))⟩ (argsG c) hw
  (fun v hv => by
   have hm : v ∈ c.v := by simpa [Trm.addV] using hv
   have h := Mk.lkL_in c.v ((List.range c.v.length).map fun (i : Nat) => (i : Int)) [] v hm (by simp)
   rw [List.nil_append] at h
   simp only [List.mem_map, List.mem_range] at h
   obtain ⟨i, hi, e⟩ := h
   rw [← e]
   exact ⟨⟨by omega, by omega⟩, by simp, by dsimp only; omega⟩)
  (fun v hv hb => (List.nodup_append.1 hn).2.2 v (by simpa [Trm.addV] using hv) v hb rfl) (List.nodup_append.1 hn).2.1 (fun h => by cases h)
 have hc : (Mk.proc Mk.lkL c).code = seg := by
  show (Mk.into Mk.lkL c.body 0 true _).code = seg
  rw [h1.code]; rfl
 rw [hc]
 exact ⟨h3, h1.regs, rfl, rfl, rfl⟩
theorem unit_procs {m : Mdl} (h : m.okB = true) : ∀ p ∈ (m.unit Mk.lkL).procs, ∃ c : Cod, p = Mk.proc Mk.lkL c ∧ Mk.FragE (argsG c) 0 p.code ∧ (c.v.length : Int) ≤ p.regs ∧ p.args = c.v.length ∧ p.rest = c.rest ∧ p.alive = [] := by
 rw [okB] at h
 simp only [Bool.and_eq_true] at h
 obtain ⟨_, ⟨h1, h2⟩, h3⟩ := h
 intro p hp
 rcases List.mem_append.1 hp with hp | hp
 ·obtain ⟨c, hc, rfl⟩ := List.mem_map.1 hp
  have he := codes_each h3 c hc
  exact ⟨c, rfl, proc_piece he.1 he.2.1⟩
 ·rw [List.mem_singleton.1 hp]
  exact ⟨_, rfl, proc_piece (c := ⟨[], false, m.body⟩) (by rw [Trm.addV_nil]; exact h1) (by simpa using ((Trm.newB_iff _ _).1 h2).2)⟩
end Mdl
end
end Go.Proofs.YtigkhmppnnljiaaGreatDoor

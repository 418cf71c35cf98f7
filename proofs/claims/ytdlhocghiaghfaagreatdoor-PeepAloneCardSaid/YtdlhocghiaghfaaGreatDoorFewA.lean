/-
  corbelref02.FewAll; few of the laws on units.
-/
import Derived.Test.YtdlhocghiaghfaaGreatDoorBoxL
import Derived.Test.YtdlhocghiaghfaaGreatDoorFewAll
import Derived.Deep.LoopGhost
namespace Go.Proofs.YtdlhocghiaghfaaGreatDoor
open Go.RowKit

theorem fewLA_iff : ∀ (l : List Dat) (left : Int), 0 ≤ left → (0 ≤ Dat.fewL l left ↔ (Dat.allL l : Int) ≤ left)
  | [], left, h => by simp [Dat.fewL, Dat.allL, h]
  | x :: l, left, h => by
    have hb := Dat.few_both x left
    have hi := Dat.few_iff x left
    rw [Dat.fewL, if_pos h, Dat.allL]
    by_cases hf : 0 ≤ Dat.few x left
    · rw [fewLA_iff l _ hf, hb.1 (hi.1 hf)]
      omega
    · have h1 : ¬ (Dat.all x : Int) ≤ left := fun hh => hf (hi.2 hh)
      rw [fewL_neg _ hf]
      constructor
      · intro hh; exact absurd hh hf
      · intro hh; omega

set_option maxHeartbeats 1000000 in
set_option maxRecDepth 100000 in
theorem rfewAll_to (l : List Dat) (sl : Value) (left : Int) (B : Nat) (w : World) (hv : RepS w B l sl) (hB : B ≤ w.heap.size) (h0 : 0 ≤ left) (h1 : left ≤ 100000) (r : Bool) (hr : decide ((Dat.allL l : Int) ≤ left) = r) :
    Calls Tryz.prog 13 #[sl, .int .i64 left] w fun e w' => e = .returned (.bool r) ∧ Below w.heap.size w w' := by
  obtain ⟨o, len, cap, rfl, hl, hcap, hmax, hc⟩ := hv
  have HV := Lib.hid hc
  have HL := Lib.hid hl
  have HR := Lib.hid (show decide (0 ≤ Dat.fewL l left) = r by rw [← hr, Bool.eq_iff_iff]; simp only [decide_eq_true_eq]; exact fewLA_iff l left h0)
  clear hc hl hr
  go_enter Tryz.func13, Tryz.ntmps13
  go_wp2_with fail
  go_loopg [1, 5] len (fun g a i wr => ∃ (cur : Int) (j : Nat), g = len - j ∧ a = .int .i64 cur ∧ i = .int .i64 j ∧ j ≤ len ∧ -1 ≤ cur ∧ cur ≤ 100000 ∧ Hid (Dat.fewL (l.drop j) cur = Dat.fewL l left) ∧ Below w.heap.size w wr)
  case atStart => exact ⟨left, 0, rfl, rfl, rfl, by omega, by omega, by omega, rfl, Below.refl _ _⟩
  case round =>
    obtain ⟨cur, j, rfl, rfl, rfl, hj, hc1, hc2, HF, hb⟩ := hrel
    have HB := Lib.hid hb
    have hsz := hb.size
    clear hb
    by_cases hjl : j < len
    · by_cases hcur : 0 ≤ cur
      · obtain ⟨x, hx⟩ : ∃ x, l[j]? = some x := ⟨_, List.getElem?_eq_getElem (by rw [← HL.out]; exact hjl)⟩
        obtain ⟨b1, off1, k1, n1, d1, s1, l1, o1, len1, cap1, ho1, hx1, e0, e1, e2, e3, e4, er⟩ := part_at2 HV.out (HB.out.mono hB) hx
        subst ho1 hx1
        have HX := Lib.hid hx
        have ER := Lib.hid er
        have HF2 := Lib.hid ((fewL_step hx hcur).symm.trans HF.out)
        have g1 := few_ge (.mk k1 n1 d1 s1 l1) cur hcur
        have g2 := Dat.few_le (.mk k1 n1 d1 s1 l1) cur
        obtain ⟨y, hy⟩ : ∃ y, Dat.few (.mk k1 n1 d1 s1 l1) cur = y := ⟨_, rfl⟩
        rw [hy] at g1 g2 HF2
        have HC := Lib.hid (rfew_any _ _ cur B wr ER.out (by omega) hcur (by omega))
        rw [hy] at HC
        clear hx er hy
        go_wp2_with fail
        refine HC.out.mono ?_
        rintro e1 w1 ⟨rfl, hb1⟩
        have HB1 := Lib.hid (Below.next HB.out hb1)
        clear hb1
        go_wp2_with fail
        go_roundg (len - (j + 1))
        case measure => omega
        case rel => exact ⟨y, j + 1, rfl, rfl, by go_num, by omega, by omega, by omega, HF2, HB1.out⟩
      · have HQ := Lib.hid (show decide (0 ≤ cur) = r by rw [← HR.out, ← HF.out, fewL_neg _ hcur])
        obtain rfl : false = r := by rw [← HQ.out, decide_eq_false hcur]
        go_wp2_with fail
        go_ret
        exact ⟨rfl, HB.out⟩
    · obtain rfl : len = j := by omega
      have HQ := Lib.hid (show decide (0 ≤ cur) = r by
          rw [← HR.out, ← HF.out, List.drop_eq_nil_of_le (by rw [← HL.out]; exact Nat.le_refl _)]; rfl)
      by_cases hcur : 0 ≤ cur
      · obtain rfl : true = r := by rw [← HQ.out, decide_eq_true hcur]
        go_wp2_with fail
        go_ret
        exact ⟨rfl, HB.out⟩
      · obtain rfl : false = r := by rw [← HQ.out, decide_eq_false hcur]
        go_wp2_with fail
        go_ret
        exact ⟨rfl, HB.out⟩


/-- few: at most so many instructions and registers. -/
def Unt.fewP (n rg : Int) : List Proc → Int → Bool
  | [], _ => true
  | p :: l, k => !decide (n < p.code.length) && (!decide (rg < p.regs) && (p.code.all (fun x => decide (x.l.length ≤ 60)) && (!decide (n < k + p.code.length) && Unt.fewP n rg l (k + p.code.length))))
def Unt.fewB (u : Unt) (n rg : Int) : Bool := !decide (30 < (u.procs.length : Int)) && (decide ((Dat.allL u.consts : Int) ≤ 2000) && Unt.fewP n rg u.procs 0)
theorem fewP_step {n rg : Int} {l : List Proc} {j : Nat} {p : Proc} {k : Int} (h : l[j]? = some p) : Unt.fewP n rg (l.drop j) k = (!decide (n < p.code.length) && (!decide (rg < p.regs) && (p.code.all (fun x => decide (x.l.length ≤ 60)) && (!decide (n < k + p.code.length) && Unt.fewP n rg (l.drop (j + 1)) (k + p.code.length))))) := by
  obtain ⟨hj, he⟩ := List.getElem?_eq_some_iff.1 h
  rw [List.drop_eq_getElem_cons hj, he, Unt.fewP]
end Go.Proofs.YtdlhocghiaghfaaGreatDoor

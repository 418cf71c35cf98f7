/-
  What the proofs lean on: FewT, FCheck.
-/
import Derived.WalkSpells
import Derived.Deep.LoopGhost
import Derived.Deep.DeepCutAuto
import Derived.Test.YtigkhmppnnljiaaGreatDoorFlatA09
import Derived.Test.YtigkhmppnnljiaaGreatDoorFlatA10
import Derived.Test.YtigkhmppnnljiaaGreatDoorFlatA15
namespace Go.Proofs.YtigkhmppnnljiaaGreatDoor
open Go Go.RowKit

namespace Trm
mutual
/-- How many terms are left. -/
def few : Trm → Int → Int
  | mk _ _ _ t, left => fewL t (left - 1)
def fewL : List Trm → Int → Int
  | [], c => c
  | x :: l, c => if 0 ≤ c then fewL l (few x c) else c
end
theorem fewL_neg (l : List Trm) {c : Int} (hc : ¬ 0 ≤ c) : fewL l c = c := by
  cases l with
  | nil => rfl
  | cons x l => rw [fewL, if_neg hc]
theorem all_ge : ∀ x : Trm, 1 ≤ x.all
  | mk _ _ _ t => by rw [all]; omega
theorem few_eq (x : Trm) : ∀ c : Int, 0 ≤ c → few x c = if (x.all : Int) ≤ c then c - x.all else -1 := by
  have hL : ∀ l : List Trm, (∀ x ∈ l, ∀ c : Int, 0 ≤ c → few x c = if (x.all : Int) ≤ c then c - x.all else -1) → ∀ c : Int, -1 ≤ c → fewL l c = if (allL l : Int) ≤ c then c - allL l else -1 := by
    intro l
    induction l with
    | nil =>
      intro _ c hc
      rw [fewL, allL]
      split
      · simp
      · omega
    | cons x l ih =>
      intro hx c hc
      have hp := x.all_ge
      by_cases h0 : 0 ≤ c
      · rw [fewL, if_pos h0, hx x (by simp) c h0, ih (fun y hy => hx y (by simp [hy])) _ (by split <;> omega), allL]
        split <;> split <;> (try split) <;> omega
      · rw [fewL, if_neg h0, allL, if_neg (by omega)]
        omega
  induction x using Trm.ind with
  | _ o n v t ih =>
    intro c hc
    rw [few, hL t ih _ (by omega), all]
    split <;> split <;> omega
theorem few_range (x : Trm) {c : Int} (hc : 0 ≤ c) : -1 ≤ few x c ∧ few x c ≤ c := by
  rw [few_eq x c hc]
  have := x.all_ge
  split <;> omega
theorem fewL_step {l : List Trm} {i : Nat} {x : Trm} {c : Int} (h : l[i]? = some x) (hc : 0 ≤ c) : fewL (l.drop i) c = fewL (l.drop (i + 1)) (few x c) := by
  have e : l.drop i = x :: l.drop (i + 1) := by
    obtain ⟨hi, he⟩ := List.getElem?_eq_some_iff.1 h
    rw [← he]; exact List.drop_eq_getElem_cons hi
  rw [e, fewL, if_pos hc]
/-- Few says whether there are few. -/
theorem few_ge0 (x : Trm) {c : Int} (hc : 0 ≤ c) : decide (0 ≤ few x c) = decide ((x.all : Int) ≤ c) := by
  rw [few_eq x c hc, decide_eq_decide]
  split <;> omega
theorem allL_take : ∀ (l : List Trm) (j : Nat) (x : Trm), l[j]? = some x → allL (l.take (j + 1)) = allL (l.take j) + x.all
  | [], j, x, h => by simp at h
  | y :: l, 0, x, h => by
    simp only [List.getElem?_cons_zero, Option.some.injEq] at h
    subst h
    simp [allL]
  | y :: l, j + 1, x, h => by
    have := allL_take l j x (by simpa using h)
    simp only [List.take_succ_cons, allL]
    omega
theorem allL_take_le : ∀ (l : List Trm) (j : Nat), allL (l.take j) ≤ allL l
  | [], j => by simp
  | y :: l, 0 => by simp [allL]
  | y :: l, j + 1 => by
    have := allL_take_le l j
    simp only [List.take_succ_cons, allL]
    omega
end Trm

/-- The box of a term that came in. -/
theorem trm_boxed {w : World} {B : Nat} {o n : Int} {v : List Int} {t : List Trm} {c0 c1 c2 c3 : Value} (h : TrmR w B (.mk o n v t) [c0, c1, c2, c3]) : ∃ vs q len cap, c0 = .int .i64 o ∧ c1 = .int .i64 n ∧ c2 = vs ∧ c3 = .slice q len cap ∧ SlC w B 4 (TrmR w B) t (.slice q len cap) ∧ SlC w B 1 IntR v vs ∧ len = t.length ∧ len ≤ 9223372036854775807 := by
  obtain ⟨vs, ts, he, _, _, h3, h4⟩ := trmR_iff.1 h
  simp only [List.cons.injEq, and_true] at he
  obtain ⟨rfl, rfl, rfl, rfl⟩ := he
  obtain ⟨q, len, cap, rfl⟩ := h4.form
  have := h4.lens
  exact ⟨_, _, _, _, rfl, rfl, rfl, rfl, h4, h3, this.1, by omega⟩

theorem trm_form {W : World} {B : Nat} {x : Trm} {c0 c1 c2 c3 : Value} (h : TrmR W B x [c0, c1, c2, c3]) : ∃ q r u q' r' u', c0 = .int .i64 x.op ∧ c1 = .int .i64 x.n ∧ c2 = .slice q r u ∧ c3 = .slice q' r' u' := by
  obtain ⟨o, n, v, t⟩ := x
  obtain ⟨vs, ts, he, _, _, h3, h4⟩ := trmR_iff.1 h
  simp only [List.cons.injEq, and_true] at he
  obtain ⟨rfl, rfl, rfl, rfl⟩ := he
  obtain ⟨q, r, u, rfl⟩ := h3.form
  obtain ⟨q', r', u', rfl⟩ := h4.form
  exact ⟨_, _, _, _, _, _, rfl, rfl, rfl, rfl⟩

set_option maxHeartbeats 2000000 in
set_option maxRecDepth 100000 in
theorem tfew_any (x : Trm) : ∀ (c0 c1 c2 c3 : Value) (left : Int) (B : Nat) (w : World), TrmR w B x [c0, c1, c2, c3] → B ≤ w.heap.size → 0 ≤ left → left ≤ 100000 →
    Calls Tryz.prog 49 #[.agg #[c0, c1, c2, c3], .int .i64 left] w fun e w' => e = .returned (.int .i64 (Trm.few x left)) ∧ Below w.heap.size w w' := by
  induction x using Trm.ind with
  | _ o n v t ih =>
    intro c0 c1 c2 c3 left B w hv hB h0 h1
    obtain ⟨vs, q, len, cap, rfl, rfl, rfl, rfl, hs, _, hlen, hmx⟩ := trm_boxed hv
    obtain ⟨W1, hW1⟩ : ∃ W1, w.alloc (.cells #[.int .i64 o, .int .i64 n, c2, .slice q len cap] 41) = W1 := ⟨_, rfl⟩
    have HB1 := Lib.hid (show Below w.heap.size w W1 from by rw [← hW1]; exact Below.one w _)
    have HX1 := Lib.hid (show BoxL W1 w.heap.size 41 [.int .i64 o, .int .i64 n, c2, .slice q len cap] from by rw [← hW1]; exact BoxL.new rfl _ _)
    have IH := Lib.hid ih
    have HS := Lib.hid hs
    have HL := Lib.hid hlen
    have HW := Lib.hid hW1
    clear ih hv hs hlen hW1
    go_enter Tryz.func49, Tryz.ntmps49
    go_upto_region 1 with fail
    rw [HW.out]
    go_wp2
    go_loopg [1, 5] len (fun g a i wr => ∃ (cur : Int) (j : Nat), g = len - j ∧ a = .int .i64 cur ∧ i = .int .i64 j ∧ j ≤ len ∧ -1 ≤ cur ∧ cur ≤ 100000 ∧ Hid (Trm.fewL (t.drop j) cur = Trm.fewL t (left - 1)) ∧ Hid (Below W1.heap.size W1 wr))
    case atStart => exact ⟨left - 1, 0, rfl, rfl, rfl, by omega, by omega, by omega, Lib.hid rfl, Lib.hid (Below.refl _ _)⟩
    case round =>
      obtain ⟨cur, j, rfl, rfl, rfl, hj, hc1, hc2, HF, HBR⟩ := hrel
      have HXR := Lib.hid (HX1.out.keep HBR.out)
      have HBW := Lib.hid (HB1.out.trans (HBR.out.mono HB1.out.size))
      have b3 := HXR.out.cell 3 rfl
      have bl := HXR.out.lt
      by_cases hjl : j < len
      · by_cases hcur : 0 ≤ cur
        · obtain ⟨x, hx⟩ : ∃ x, t[j]? = some x := ⟨_, List.getElem?_eq_getElem (by rw [← HL.out]; exact hjl)⟩
          obtain ⟨b, off, cs, ho, _, hcl, hcell, hir⟩ := SlC.at HS.out (HBW.out.mono hB) hx
          subst ho
          match cs, hcl with
          | [d0, d1, d2, d3], _ =>
            have e0 := hcell 0 _ rfl
            have e1 := hcell 1 _ rfl
            have e2 := hcell 2 _ rfl
            have e3 := hcell 3 _ rfl
            simp only [Nat.add_zero] at e0
            have HX := Lib.hid hx
            have hg := Trm.few_range x hcur
            have HF2 := Lib.hid ((Trm.fewL_step hx hcur).symm.trans HF.out)
            have HCC := Lib.hid (IH.out x (List.mem_of_getElem? hx) d0 d1 d2 d3 cur B wr (TrmR.kept (HBW.out.mono hB) _ _ hir) (by have := HBW.out.size; omega) hcur hc2)
            obtain ⟨y, hy⟩ : ∃ y, Trm.few x cur = y := ⟨_, rfl⟩
            rw [hy] at hg HF2 HCC
            clear hx hir hcell hy
            go_wp2_with fail
            with_reducible refine HCC.out.mono ?_
            rintro e w1 ⟨rfl, hb1⟩
            have HBN := Lib.hid (HBR.out.trans (hb1.mono HBR.out.size))
            clear hb1 HCC
            go_wp2_with fail
            go_roundg (len - (j + 1))
            case measure => omega
            case rel => exact ⟨y, j + 1, rfl, rfl, by go_num, by omega, by omega, by omega, HF2, HBN⟩
        · have HR := Lib.hid (show Trm.fewL t (left - 1) = cur by rw [← HF.out, Trm.fewL_neg _ hcur])
          go_wp2
          go_ret
          exact ⟨ret_int (by rw [Trm.few]; exact HR.out.symm), HBW.out⟩
      · have HR := Lib.hid (show Trm.fewL t (left - 1) = cur by
          rw [← HF.out, List.drop_eq_nil_of_le (by rw [← HL.out]; omega)]; rfl)
        go_wp2
        go_ret
        exact ⟨ret_int (by rw [Trm.few]; exact HR.out.symm), HBW.out⟩

set_option maxRecDepth 100000 in
theorem tFew_any (x : Trm) (c0 c1 c2 c3 : Value) (left : Int) (B : Nat) (w : World) (hv : TrmR w B x [c0, c1, c2, c3]) (hB : B ≤ w.heap.size) (h0 : 0 ≤ left) (h1 : left ≤ 100000) :
    Calls Tryz.prog 22 #[.agg #[c0, c1, c2, c3], .int .i64 left] w fun e w' => e = .returned (.bool (decide ((x.all : Int) ≤ left))) ∧ Below w.heap.size w w' := by
  have HD := Lib.hid (Trm.few_ge0 x h0)
  have HCC := Lib.hid (tfew_any x c0 c1 c2 c3 left B (w.alloc (.cells #[c0, c1, c2, c3] 41)) (TrmR.kept ((Below.one w _).mono hB) _ _ hv) (by simp; omega) h0 h1)
  obtain ⟨o, n, v, t⟩ := x
  obtain ⟨vs, q, len, cap, rfl, rfl, rfl, rfl, hs, _, hlen, hmx⟩ := trm_boxed hv
  obtain ⟨oo, ll, cc, rfl⟩ : ∃ oo ll cc, c2 = .slice oo ll cc := by
    obtain ⟨vs', ts, he, _, _, h3, _⟩ := trmR_iff.1 hv
    simp only [List.cons.injEq, and_true] at he
    obtain ⟨_, _, rfl, _⟩ := he
    exact h3.form
  obtain ⟨y, hy⟩ : ∃ y, Trm.few (.mk o n v t) left = y := ⟨_, rfl⟩
  rw [hy] at HD HCC
  clear hv hs hlen hmx hy
  go_enter Tryz.func22, Tryz.ntmps22
  go_wp2_with fail
  with_reducible refine HCC.out.mono ?_
  rintro e' w1 ⟨rfl, hb1⟩
  go_wp2_with fail
  go_ret
  exact ⟨by rw [← HD.out]; rfl, (Below.one w _).trans (hb1.mono (by simp))⟩

set_option maxHeartbeats 2000000 in
set_option maxRecDepth 100000 in
theorem tsize_any (x : Trm) : ∀ (c0 c1 c2 c3 : Value) (deep : Int) (B : Nat) (w : World), TrmR w B x [c0, c1, c2, c3] → B ≤ w.heap.size → 0 ≤ deep → deep + x.all ≤ 1000 →
    Calls Tryz.prog 67 #[.agg #[c0, c1, c2, c3], .int .i64 deep] w fun e w' => e = .returned (.int .i64 x.all) ∧ Below w.heap.size w w' := by
  induction x using Trm.ind with
  | _ o n v t ih =>
    intro c0 c1 c2 c3 deep B w hv hB h0 h1
    obtain ⟨vs, q, len, cap, rfl, rfl, rfl, rfl, hs, _, hlen, hmx⟩ := trm_boxed hv
    obtain ⟨W1, hW1⟩ : ∃ W1, w.alloc (.cells #[.int .i64 o, .int .i64 n, c2, .slice q len cap] 41) = W1 := ⟨_, rfl⟩
    have HB1 := Lib.hid (show Below w.heap.size w W1 from by rw [← hW1]; exact Below.one w _)
    have HX1 := Lib.hid (show BoxL W1 w.heap.size 41 [.int .i64 o, .int .i64 n, c2, .slice q len cap] from by rw [← hW1]; exact BoxL.new rfl _ _)
    rw [Trm.all] at h1 ⊢
    have IH := Lib.hid ih
    have HS := Lib.hid hs
    have HL := Lib.hid hlen
    have HW := Lib.hid hW1
    clear ih hv hs hlen hW1
    go_enter Tryz.func67, Tryz.ntmps67
    go_upto_region 1 with fail
    rw [HW.out]
    go_wp2
    go_loopg [5, 6] len (fun g a i wr => ∃ j : Nat, g = len - j ∧ a = .int .i64 ((1 + Trm.allL (t.take j) : Nat) : Int) ∧ i = .int .i64 j ∧ j ≤ len ∧ Hid (Below W1.heap.size W1 wr))
    case atStart => exact ⟨0, rfl, by rw [List.take_zero, Trm.allL]; rfl, rfl, by omega, Lib.hid (Below.refl _ _)⟩
    case round =>
      obtain ⟨j, rfl, rfl, rfl, hj, HBR⟩ := hrel
      have HXR := Lib.hid (HX1.out.keep HBR.out)
      have HBW := Lib.hid (HB1.out.trans (HBR.out.mono HB1.out.size))
      have b3 := HXR.out.cell 3 rfl
      have bl := HXR.out.lt
      have hle := Trm.allL_take_le t j
      by_cases hjl : j < len
      · obtain ⟨x, hx⟩ : ∃ x, t[j]? = some x := ⟨_, List.getElem?_eq_getElem (by rw [← HL.out]; exact hjl)⟩
        obtain ⟨b, off, cs, ho, _, hcl, hcell, hir⟩ := SlC.at HS.out (HBW.out.mono hB) hx
        subst ho
        match cs, hcl with
        | [d0, d1, d2, d3], _ =>
          have e0 := hcell 0 _ rfl
          have e1 := hcell 1 _ rfl
          have e2 := hcell 2 _ rfl
          have e3 := hcell 3 _ rfl
          simp only [Nat.add_zero] at e0
          have hle2 := Trm.allL_take_le t (j + 1)
          have hst := Trm.allL_take t j x hx
          have hm := Trm.allL_mem (List.mem_of_getElem? hx)
          have hap := x.all_ge
          have hd : deep < 1000 := by omega
          have HCC := Lib.hid (IH.out x (List.mem_of_getElem? hx) d0 d1 d2 d3 (deep + 1) B wr (TrmR.kept (HBW.out.mono hB) _ _ hir) (by have := HBW.out.size; omega) (by omega) (by omega))
          have HST := Lib.hid hst
          clear hx hir hcell hst
          obtain ⟨N, hN⟩ : ∃ N, Trm.allL (t.take j) = N := ⟨_, rfl⟩
          obtain ⟨M, hM⟩ : ∃ M, x.all = M := ⟨_, rfl⟩
          rw [hN, hM] at HST
          rw [hM] at HCC hm hap
          rw [HST.out] at hle2
          rw [hN] at hle ⊢
          clear hN hM
          go_wp2_with fail
          with_reducible refine HCC.out.mono ?_
          rintro e w1 ⟨rfl, hb1⟩
          have HBN := Lib.hid (HBR.out.trans (hb1.mono HBR.out.size))
          clear hb1 HCC
          go_wp2_with fail
          go_roundg (len - (j + 1))
          case measure => omega
          case rel => exact ⟨j + 1, rfl, by rw [HST.out]; go_num, by go_num, by omega, HBN⟩
      · obtain rfl : j = len := by omega
        have HT := Lib.hid (show t.take j = t from List.take_of_length_le (by rw [← HL.out]; exact Nat.le_refl _))
        rw [HT.out]
        go_wp2
        go_ret
        exact ⟨rfl, HBW.out⟩

set_option maxRecDepth 100000 in
theorem tSize_any (x : Trm) (c0 c1 c2 c3 : Value) (B : Nat) (w : World) (hv : TrmR w B x [c0, c1, c2, c3]) (hB : B ≤ w.heap.size) (h1 : x.all ≤ 1000) :
    Calls Tryz.prog 37 #[.agg #[c0, c1, c2, c3]] w fun e w' => e = .returned (.int .i64 x.all) ∧ Below w.heap.size w w' := by
  have HCC := Lib.hid (tsize_any x c0 c1 c2 c3 0 B (w.alloc (.cells #[c0, c1, c2, c3] 41)) (TrmR.kept ((Below.one w _).mono hB) _ _ hv) (by simp; omega) (by omega) (by omega))
  obtain ⟨o, n, v, t⟩ := x
  obtain ⟨vs', ts, he, _, _, h3, h4⟩ := trmR_iff.1 hv
  simp only [List.cons.injEq, and_true] at he
  obtain ⟨rfl, rfl, rfl, rfl⟩ := he
  obtain ⟨oo, ll, cc, rfl⟩ := h3.form
  obtain ⟨o2, l2, k2, rfl⟩ := h4.form
  obtain ⟨N, hN⟩ : ∃ N, (Trm.mk o n v t).all = N := ⟨_, rfl⟩
  rw [hN] at HCC ⊢
  clear hv h3 h4 hN h1
  go_enter Tryz.func37, Tryz.ntmps37
  go_wp2_with fail
  with_reducible refine HCC.out.mono ?_
  rintro e' w1 ⟨rfl, hb1⟩
  go_wp2_with fail
  go_ret
  exact ⟨rfl, (Below.one w _).trans (hb1.mono (by simp))⟩
end Go.Proofs.YtigkhmppnnljiaaGreatDoor

namespace Go.Proofs.YtigkhmppnnljiaaGreatDoor
open Go.RowKit

theorem dright_to' (x : Dat) (v : Value) (B : Nat) (w : World) (r : Bool) (hr : Dat.right x 0 = r) (hv : RepD w B x v) (hB : B ≤ w.heap.size) :
    Calls Tryz.prog 31 #[v] w fun e w' => e = .returned (.bool r) ∧ Below w.heap.size w w' := by
  rw [← hr]; exact dright_any x v B w hv hB

set_option maxHeartbeats 1000000 in
theorem check1_to (x : Dat) (v : Value) (B : Nat) (w : World) (hv : RepD w B x v) (hB : B ≤ w.heap.size) :
    Calls Tryz.prog 30 #[v] w fun e w' => e = .returned (.bool (!Dat.right x 0)) ∧ Below w.heap.size w w' := by
  obtain ⟨k, n, d, s, o, len, cap, rfl⟩ := agg_of hv
  obtain ⟨r, hr⟩ : ∃ r, Dat.right x 0 = r := ⟨_, rfl⟩
  rw [hr]
  have HC := Lib.hid (fun X => dright_to' x _ B (w.alloc X) r hr (hv.kept ((Below.one w X).mono hB)) (by simp; omega))
  clear hr hv
  go_enter Tryz.func30, Tryz.ntmps30
  go_wp2_with fail
  refine (HC.out _).mono ?_
  rintro e w1 ⟨rfl, hb1⟩
  go_wp2_with fail
  go_ret
  exact ⟨rfl, one_below hb1⟩

set_option maxHeartbeats 1000000 in
set_option maxRecDepth 100000 in
theorem check2_to (x : Ins) (c0 c1 c2 c3 c4 : Value) (args regs : Int) (rest : Bool) (oc oa ok op : Option Addr) (lc cc la ca lk ck lp cp : Nat) (B pb ub : Nat) (w : World) (hx : InsR w B x [c0, c1, c2, c3, c4]) (hB : B ≤ w.heap.size)
    (hp : BoxL w pb 31 [.int .i64 args, .bool rest, .int .i64 regs, .slice oc lc cc, .slice oa la ca]) (hu : BoxL w ub 25 [.slice ok lk ck, .slice op lp cp]) :
    Calls Tryz.prog 33 #[.agg #[c0, c1, c2, c3, c4], .pointer (some ⟨pb, 0, none⟩), .pointer (some ⟨ub, 0, none⟩)] w fun e w' => e = .returned (.bool (!Unt.fits x regs lc lp lk)) ∧ Below w.heap.size w w' := by
  obtain ⟨k, d, a, b, l⟩ := x
  obtain ⟨sl, he, _, _, ha, _, hl⟩ := hx
  simp only [List.cons.injEq, and_true] at he
  obtain ⟨rfl, rfl, rfl, rfl, rfl⟩ := he
  obtain ⟨o, len, cap, rfl⟩ := hl.form
  obtain ⟨r, hr⟩ : ∃ r, Unt.fits ⟨k, d, a, b, l⟩ regs lc lp lk = r := ⟨_, rfl⟩
  rw [hr]
  have HC := Lib.hid (fun X => fits_any k d a b l o len cap args regs rest oc oa ok op lc cc la ca lk ck lp cp B (w.alloc X) ha (hl.kept ((Below.one w X).mono hB) fun _ _ _ h => h) (by simp; omega) r hr)
  have p0 := hp.cell 0 rfl
  have p1 := hp.cell 1 rfl
  have p2 := hp.cell 2 rfl
  have p3 := hp.cell 3 rfl
  have p4 := hp.cell 4 rfl
  have u0 := hu.cell 0 rfl
  have u1 := hu.cell 1 rfl
  have z0 := hp.lt
  have z1 := hu.lt
  dsimp only at p0 p1 p2 p3 p4 u0 u1 ha
  clear hr hl hp hu
  go_enter Tryz.func33, Tryz.ntmps33
  go_wp2_with fail
  refine (HC.out _).mono ?_
  rintro e w1 ⟨rfl, hb1⟩
  go_wp2_with fail
  go_ret
  exact ⟨rfl, one_below hb1⟩

theorem procsB_step {nk np : Int} {l : List Proc} {j : Nat} {p : Proc} {all : Int} (h : l[j]? = some p) : Unt.procsB nk np (l.drop j) all = (Unt.headB p && (decide (all + p.code.length ≤ 50000) && (Unt.lastB (Unt.lastOp p.code) && (p.code.all (fun x => Unt.fits x p.regs p.code.length np nk) && Unt.procsB nk np (l.drop (j + 1)) (all + p.code.length))))) := by
  obtain ⟨hj, he⟩ := List.getElem?_eq_some_iff.1 h
  rw [List.drop_eq_getElem_cons hj, he, Unt.procsB]
theorem err_no {u : Unt} (h : u.okB = false) : u.err = 5 := by simp [Unt.err, h]
theorem err_ok {u : Unt} (h : u.okB = true) : u.err = 0 := by simp [Unt.err, h]
theorem lastOp_at {l : List Ins} {x : Ins} {n : Nat} (hn : n = l.length) (hx : l[n - 1]? = some x) : Unt.lastOp l = x.op := by
  subst hn
  rw [Unt.lastOp, List.getLast?_eq_getElem?, hx]

set_option maxHeartbeats 8000000 in
set_option maxRecDepth 100000 in
theorem fcheck_any (u : Unt) (v : Value) (B : Nat) (w : World) (hv : UntR w B u v) (hB : B ≤ w.heap.size) :
    Calls Tryz.prog 12 #[v] w fun e w' => e = .returned (.int .i64 u.err) ∧ Below w.heap.size w w' := by
  obtain ⟨cv, pv, rfl, hc, hp⟩ := hv
  obtain ⟨E, hE⟩ : ∃ E, u.err = E := ⟨_, rfl⟩
  rw [hE]
  obtain ⟨op, np, cp, rfl, hnp, hcapp, hmaxp⟩ := hp.slice
  have HCS := Lib.hid hc
  obtain ⟨ok, nk, ck, rfl, hnk, hcapk, hmaxk, _⟩ := hc
  have HP := Lib.hid hp
  have HE := Lib.hid hE
  have HNP := Lib.hid hnp
  have HNK := Lib.hid hnk
  clear hp hE hnp hnk
  have HNO := Lib.hid (show (∀ h : u.okB = false, E = 5) from fun h => by rw [← HE.out, err_no h])
  by_cases c1 : np < 1
  · obtain rfl : E = 5 := HNO.out (by rw [Unt.okB, ← HNP.out]; simp; omega)
    obtain rfl : np = 0 := by omega
    go_enter Tryz.func12, Tryz.ntmps12
    go_wp2_with fail
    go_ret
    exact ⟨rfl, Below.one _ _⟩
  by_cases c2 : 1000 < np
  · obtain rfl : E = 5 := HNO.out (by rw [Unt.okB, ← HNP.out]; simp; omega)
    go_enter Tryz.func12, Tryz.ntmps12
    go_wp2_with fail
    go_ret
    exact ⟨rfl, Below.one _ _⟩
  obtain ⟨rc, hrc⟩ : ∃ rc, u.consts.any (fun x => !Dat.right x 0) = rc := ⟨_, rfl⟩
  have HRC := Lib.hid hrc
  have HC := Lib.hid (fun X => containsFunc_S 30 #[] (fun x => !Dat.right x 0) rc u.consts (.slice ok nk ck) B (w.alloc X) (HCS.out.kept ((Below.one w X).mono hB)) (by simp; omega) (fun _ _ => rfl) (fun x _ v W hr hbW => by
    exact check1_to x v B W hr (by have := hbW.size; simp at this; omega)) HRC.out)
  clear hrc
  have c1' : ¬ (np : Int) < 1 := by omega
  have HB0 := Lib.hid (Below.refl (w.heap.size + 1) (w.alloc (.cells #[.slice ok nk ck, .slice op np cp] 25)))
  go_enter Tryz.func12, Tryz.ntmps12
  go_wp2_with fail
  refine (HC.out _).mono ?_
  rintro e w1 ⟨rfl, hb1⟩
  have HB1 := Lib.hid (HB0.out.trans (hb1.mono (by simp)))
  clear hb1 HC
  cases rc with
  | true =>
    obtain rfl : E = 5 := HNO.out (by
      have h1 := HRC.out
      rw [← List.not_all_eq_any_not] at h1
      have h2 : u.consts.all (fun x => Dat.right x 0) = false := by simpa using h1
      rw [Unt.okB, h2]; simp)
    go_wp2_with fail
    go_ret
    exact ⟨rfl, (Below.one w _).trans (HB1.out.mono (by omega))⟩
  | false =>
    have HOK := Lib.hid (show u.okB = Unt.procsB nk np u.procs 0 from by
      have h1 := HRC.out
      rw [← List.not_all_eq_any_not] at h1
      have h2 : u.consts.all (fun x => Dat.right x 0) = true := by simpa using h1
      rw [Unt.okB, h2, ← HNP.out, ← HNK.out, decide_eq_true (show 1 ≤ (np : Int) by omega), decide_eq_true (show (np : Int) ≤ 1000 by omega)]; simp)
    have bu1 : BoxL w1 w.heap.size 25 [.slice ok nk ck, .slice op np cp] := (HB1.out.block _ (by omega)).trans (BoxL.new rfl _ _)
    have q1 := bu1.cell 1 rfl
    have hlt1 := bu1.lt
    clear bu1
    go_wp2_with fail
    go_loopg [3, 26] np (fun g a i wr => ∃ (j : Nat) (all : Int), g = np - j ∧ j ≤ np ∧ a = .int .i64 all ∧ i = .int .i64 j ∧ 0 ≤ all ∧ all ≤ 50000 ∧ Hid (Unt.procsB nk np u.procs 0 = Unt.procsB nk np (u.procs.drop j) all) ∧ Hid (Below (w.heap.size + 1) (w.alloc (.cells #[.slice ok nk ck, .slice op np cp] 25)) wr))
    case atStart => exact ⟨0, 0, rfl, by omega, rfl, rfl, by omega, by omega, rfl, HB1⟩
    case round =>
      obtain ⟨j, all, rfl, hj, rfl, rfl, ha0, ha1, HS, HB⟩ := hrel
      have bu : BoxL wr w.heap.size 25 [.slice ok nk ck, .slice op np cp] := (HB.out.block _ (by omega)).trans (BoxL.new rfl _ _)
      have hlt := bu.lt
      have HBU := Lib.hid bu
      have HBW := Lib.hid (show Below w.heap.size w wr from (Below.one w _).trans (HB.out.mono (by omega)))
      clear bu q1
      by_cases hjl : j < np
      · obtain ⟨p, hx⟩ : ∃ p, u.procs[j]? = some p := ⟨_, List.getElem?_eq_getElem (by rw [← HNP.out]; exact hjl)⟩
        obtain ⟨b1, off1, cs, ho1, hbB, hcl, hcell, hpr⟩ := HP.out.at (HBW.out.mono hB) hx
        subst ho1
        have HSTEP := Lib.hid (HS.out.trans (procsB_step hx))
        obtain ⟨args, rest, regs, code, alive⟩ := p
        obtain ⟨sl, al, rfl, hbargs, hbregs, hcode, halive⟩ := hpr
        obtain ⟨oc, n, cc, rfl, hn, hcapc, hmaxc⟩ := hcode.slice
        obtain ⟨oa, la, ca, rfl⟩ := halive.form
        dsimp only at hn hbargs hbregs HSTEP hcode
        have e0 := hcell 0 _ rfl
        have e1 := hcell 1 _ rfl
        have e2 := hcell 2 _ rfl
        have e3 := hcell 3 _ rfl
        have e4 := hcell 4 _ rfl
        rw [Nat.add_zero] at e0
        have HN := Lib.hid hn
        have HCODE := Lib.hid hcode
        have HBN := Lib.hid (fun X => (Below.one wr X))
        clear hx hcell hcl hcode halive hn
        have HEND := Lib.hid (show (∀ h : Unt.procsB nk np (u.procs.drop j) all = false, E = 5) from fun h => HNO.out (by rw [HOK.out, HS.out]; exact h))
        have HEND2 := Lib.hid (show (∀ h : Unt.headB ⟨args, rest, regs, code, alive⟩ = false, E = 5) from fun h => HNO.out (by rw [HOK.out, HSTEP.out, h]; rfl))
        have HLN := Lib.hid (show (code.length : Int) = n from by rw [HN.out])
        by_cases h1 : args < 0
        · obtain rfl : E = 5 := HEND2.out (by simp [Unt.headB, h1])
          go_wp2_with fail
          go_ret
          exact ⟨rfl, HBW.out.alloc (by have := HBW.out.size; omega) _⟩
        by_cases h2 : regs < args
        · obtain rfl : E = 5 := HEND2.out (by simp [Unt.headB, h2])
          go_wp2_with fail
          go_ret
          exact ⟨rfl, HBW.out.alloc (by have := HBW.out.size; omega) _⟩
        by_cases h3 : 20000 < regs
        · obtain rfl : E = 5 := HEND2.out (by simp [Unt.headB, h3])
          go_wp2_with fail
          go_ret
          exact ⟨rfl, HBW.out.alloc (by have := HBW.out.size; omega) _⟩
        by_cases h4 : rest = true ∧ args = 0
        · obtain ⟨rfl, rfl⟩ := h4
          obtain rfl : E = 5 := HEND2.out (by simp [Unt.headB])
          go_wp2_with fail
          go_ret
          exact ⟨rfl, HBW.out.alloc (by have := HBW.out.size; omega) _⟩
        by_cases h5 : n = 0
        · subst h5
          obtain rfl : E = 5 := HEND2.out (by have := HLN.out; simp [Unt.headB, this])
          cases rest with
          | true =>
            have h4' : (args == 0) = false := by simpa using fun h => h4 ⟨rfl, h⟩
            go_wp2_with fail
            go_ret
            exact ⟨rfl, HBW.out.alloc (by have := HBW.out.size; omega) _⟩
          | false =>
            go_wp2_with fail
            go_ret
            exact ⟨rfl, HBW.out.alloc (by have := HBW.out.size; omega) _⟩
        by_cases h6 : 50000 < n
        · obtain rfl : E = 5 := HEND2.out (by have := HLN.out; simp [Unt.headB, this]; omega)
          cases rest with
          | true =>
            have h4' : (args == 0) = false := by simpa using fun h => h4 ⟨rfl, h⟩
            go_wp2_with fail
            go_ret
            exact ⟨rfl, HBW.out.alloc (by have := HBW.out.size; omega) _⟩
          | false =>
            go_wp2_with fail
            go_ret
            exact ⟨rfl, HBW.out.alloc (by have := HBW.out.size; omega) _⟩
        have HH := Lib.hid (show Unt.headB ⟨args, rest, regs, code, alive⟩ = true from by
          have h7 := HLN.out
          have h8 : ¬ (code.length : Int) = 0 := by omega
          have h9 : ¬ (50000 : Int) < code.length := by omega
          have hra : (rest && decide (args = 0)) = false := by cases rest <;> simp; intro h; exact h4 ⟨rfl, h⟩
          simp only [Unt.headB, decide_eq_false h1, decide_eq_false h2, decide_eq_false h3, decide_eq_false h8, decide_eq_false h9, hra]; rfl)
        have d1 : decide (args < 0) = false := decide_eq_false h1
        have d2 : decide (regs < args) = false := decide_eq_false h2
        have d3 : decide (20000 < regs) = false := decide_eq_false h3
        have d5 : ((n : Int) == 0) = false := by simpa using h5
        have d6 : decide ((50000 : Int) < (n : Int)) = false := decide_eq_false (by omega)
        obtain ⟨x, hx⟩ : ∃ x, code[n - 1]? = some x := ⟨_, List.getElem?_eq_getElem (by rw [← HN.out]; omega)⟩
        obtain ⟨bc, offc, ds, hoc, hbc, hdl, hdcell, hins⟩ := HCODE.out.at (HBW.out.mono hB) hx
        subst hoc
        obtain ⟨kk, dd, aa, bb, ll⟩ := x
        obtain ⟨sl, rfl, hbk, _, _, _, _⟩ := hins
        have k0 := hdcell 0 _ rfl
        rw [Nat.add_zero] at k0
        dsimp only at k0 hbk
        have HLO := Lib.hid (show Unt.lastOp code = kk from lastOp_at HN.out hx)
        have hkl := cell_lt k0
        have hnpos : 0 < n := by omega
        clear hx hdcell hdl
        have HEND3 := Lib.hid (show (∀ h : (decide (all + n ≤ 50000) && (Unt.lastB kk)) = false, E = 5) from fun h => HNO.out (by
          rw [HOK.out, HSTEP.out, HLN.out, HLO.out, HH.out]
          rcases Bool.and_eq_false_iff.1 h with h | h <;> rw [h] <;> simp))
        by_cases h7 : 50000 < all + n
        · obtain rfl : E = 5 := HEND3.out (by rw [decide_eq_false (by omega)]; rfl)
          have d7 : decide ((50000 : Int) < all + n) = true := decide_eq_true h7
          cases rest with
          | true =>
            have h4' : (args == 0) = false := by simpa using fun h => h4 ⟨rfl, h⟩
            go_wp2_with fail
            all_goals go_ret
            all_goals exact ⟨rfl, HBW.out.alloc (by have := HBW.out.size; omega) _⟩
          | false =>
            go_wp2_with fail
            all_goals go_ret
            all_goals exact ⟨rfl, HBW.out.alloc (by have := HBW.out.size; omega) _⟩
        have h7' : all + n ≤ 50000 := by omega
        have d7 : decide ((50000 : Int) < all + n) = false := decide_eq_false h7
        by_cases h8 : kk ≠ 15 ∧ (kk < 19 ∨ 22 < kk)
        · obtain rfl : E = 5 := HEND3.out (by rw [decide_eq_true h7']; simp [Unt.lastB]; omega)
          obtain ⟨h8a, h8b⟩ := h8
          have h8c : (kk != 15) = true := by simpa using h8a
          by_cases h8d : kk < 19
          · have h8e : decide (kk < 19) = true := decide_eq_true h8d
            cases rest with
            | true =>
              have h4' : (args == 0) = false := by simpa using fun h => h4 ⟨rfl, h⟩
              go_wp2_with fail
              all_goals go_ret
              all_goals exact ⟨rfl, HBW.out.alloc (by have := HBW.out.size; omega) _⟩
            | false =>
              go_wp2_with fail
              all_goals go_ret
              all_goals exact ⟨rfl, HBW.out.alloc (by have := HBW.out.size; omega) _⟩
          · have h8e : decide (kk < 19) = false := decide_eq_false h8d
            have h8f : decide (22 < kk) = true := decide_eq_true (by omega)
            cases rest with
            | true =>
              have h4' : (args == 0) = false := by simpa using fun h => h4 ⟨rfl, h⟩
              go_wp2_with fail
              all_goals go_ret
              all_goals exact ⟨rfl, HBW.out.alloc (by have := HBW.out.size; omega) _⟩
            | false =>
              go_wp2_with fail
              all_goals go_ret
              all_goals exact ⟨rfl, HBW.out.alloc (by have := HBW.out.size; omega) _⟩
        have HLB := Lib.hid (show Unt.lastB kk = true from by simp [Unt.lastB]; omega)
        have HW8 := Lib.hid h8
        clear h8
        obtain ⟨rf, hrf⟩ : ∃ rf, code.any (fun x => !Unt.fits x regs n np nk) = rf := ⟨_, rfl⟩
        have HRF := Lib.hid hrf
        clear hrf
        have HNEXT := Lib.hid (show (rf = true → E = 5) ∧ (rf = false → Unt.procsB nk np u.procs 0 = Unt.procsB nk np (u.procs.drop (j + 1)) (all + n)) from by
          have h1 := HRF.out
          rw [← List.not_all_eq_any_not] at h1
          have h2 := HSTEP.out
          rw [HLN.out, HLO.out, HH.out, HLB.out, decide_eq_true h7'] at h2
          constructor
          · rintro rfl
            refine HNO.out (by rw [HOK.out, h2]; simp only [Bool.not_eq_true'] at h1; rw [h1]; rfl)
          · rintro rfl
            have h3 : (code.all fun x => Unt.fits x regs n np nk) = true := by simpa using h1
            rw [h2, h3]; rfl)
        have hW1 : ∀ X, Below B w (wr.alloc X) := fun X => (HBW.out.mono hB).trans ((Below.one wr X).mono (by have := HBW.out.size; omega))
        have HCF := Lib.hid (containsG_ins (InsR w B) 33 #[.pointer (some ⟨wr.heap.size, 0, none⟩), .pointer (some ⟨w.heap.size, 0, none⟩)] (fun x => !Unt.fits x regs n np nk) rf code (.slice (some ⟨bc, offc, none⟩) n cc) B (wr.alloc (.cells [.int .i64 args, .bool rest, .int .i64 regs, .slice (some ⟨bc, offc, none⟩) n cc, .slice oa la ca].toArray 31)) (HCODE.out.kept (hW1 _) fun _ _ _ h => h) (by have := HBW.out.size; simp; omega) (fun _ _ => rfl) (fun x _ c0 c1 c2 c3 c4 W hR hbW => check2_to x c0 c1 c2 c3 c4 args regs rest (some ⟨bc, offc, none⟩) oa ok (some ⟨b1, off1, none⟩) n cc la ca nk ck np cp B wr.heap.size w.heap.size W (hR.kept ((hW1 _).trans (hbW.mono (by have := HBW.out.size; simp; omega)))) (by have := hbW.size; have := HBW.out.size; simp at *; omega) ((BoxL.new rfl _ _).keep hbW) ((HBU.out.alloc _).keep hbW)) HRF.out)
        clear hW1
        cases rest with
        | true =>
          have h4' : (args == 0) = false := by simpa using fun h => h4 ⟨rfl, h⟩
          have hk : (kk = 15) ∨ (kk ≠ 15 ∧ 19 ≤ kk ∧ kk ≤ 22) := by have := HW8.out; omega
          rcases hk with hk | ⟨hk, hk1, hk2⟩
          · have e15 : (kk != 15) = false := by simpa using hk
            clear hk
            go_wp2_with fail
            refine HCF.out.mono ?_
            rintro e w2 ⟨rfl, hb2⟩
            have HB2 := Lib.hid (one_below hb2)
            clear hb2
            cases rf with
            | true =>
              obtain rfl : E = 5 := HNEXT.out.1 rfl
              go_wp2_with fail
              go_ret
              exact ⟨rfl, Below.next HBW.out HB2.out⟩
            | false =>
              have HPN := Lib.hid (HNEXT.out.2 rfl)
              go_wp2_with fail
              go_roundg (np - (j + 1))
              case measure => omega
              case rel => exact ⟨j + 1, all + n, rfl, by omega, rfl, by go_num, by omega, by omega, HPN, Lib.hid (HB.out.trans (HB2.out.mono (by omega)))⟩
          · have e15 : (kk != 15) = true := by simpa using hk
            have e19 : decide (kk < 19) = false := decide_eq_false (by omega)
            have e22 : decide (22 < kk) = false := decide_eq_false (by omega)
            go_wp2_with fail
            refine HCF.out.mono ?_
            rintro e w2 ⟨rfl, hb2⟩
            have HB2 := Lib.hid (one_below hb2)
            clear hb2
            cases rf with
            | true =>
              obtain rfl : E = 5 := HNEXT.out.1 rfl
              go_wp2_with fail
              go_ret
              exact ⟨rfl, Below.next HBW.out HB2.out⟩
            | false =>
              have HPN := Lib.hid (HNEXT.out.2 rfl)
              go_wp2_with fail
              go_roundg (np - (j + 1))
              case measure => omega
              case rel => exact ⟨j + 1, all + n, rfl, by omega, rfl, by go_num, by omega, by omega, HPN, Lib.hid (HB.out.trans (HB2.out.mono (by omega)))⟩
        | false =>
          have hk : (kk = 15) ∨ (kk ≠ 15 ∧ 19 ≤ kk ∧ kk ≤ 22) := by have := HW8.out; omega
          rcases hk with hk | ⟨hk, hk1, hk2⟩
          · have e15 : (kk != 15) = false := by simpa using hk
            clear hk
            go_wp2_with fail
            refine HCF.out.mono ?_
            rintro e w2 ⟨rfl, hb2⟩
            have HB2 := Lib.hid (one_below hb2)
            clear hb2
            cases rf with
            | true =>
              obtain rfl : E = 5 := HNEXT.out.1 rfl
              go_wp2_with fail
              go_ret
              exact ⟨rfl, Below.next HBW.out HB2.out⟩
            | false =>
              have HPN := Lib.hid (HNEXT.out.2 rfl)
              go_wp2_with fail
              go_roundg (np - (j + 1))
              case measure => omega
              case rel => exact ⟨j + 1, all + n, rfl, by omega, rfl, by go_num, by omega, by omega, HPN, Lib.hid (HB.out.trans (HB2.out.mono (by omega)))⟩
          · have e15 : (kk != 15) = true := by simpa using hk
            have e19 : decide (kk < 19) = false := decide_eq_false (by omega)
            have e22 : decide (22 < kk) = false := decide_eq_false (by omega)
            go_wp2_with fail
            refine HCF.out.mono ?_
            rintro e w2 ⟨rfl, hb2⟩
            have HB2 := Lib.hid (one_below hb2)
            clear hb2
            cases rf with
            | true =>
              obtain rfl : E = 5 := HNEXT.out.1 rfl
              go_wp2_with fail
              go_ret
              exact ⟨rfl, Below.next HBW.out HB2.out⟩
            | false =>
              have HPN := Lib.hid (HNEXT.out.2 rfl)
              go_wp2_with fail
              go_roundg (np - (j + 1))
              case measure => omega
              case rel => exact ⟨j + 1, all + n, rfl, by omega, rfl, by go_num, by omega, by omega, HPN, Lib.hid (HB.out.trans (HB2.out.mono (by omega)))⟩
      · obtain rfl : j = np := by omega
        have HT := Lib.hid (show u.okB = true from by rw [HOK.out, HS.out, List.drop_eq_nil_of_le (by rw [← HNP.out]; exact Nat.le_refl _)]; rfl)
        obtain rfl : E = 0 := by rw [← HE.out, err_ok HT.out]
        go_wp2_with fail
        go_ret
        exact ⟨rfl, HBW.out⟩
end Go.Proofs.YtigkhmppnnljiaaGreatDoor

/-
  The contract of prims.Find.
-/
import Derived.Test.YtnpiekniignfcaaGreatDoorFacts
import Derived.Test.YtnpiekniignfcaaGreatDoorRights
import Derived.Test.YtnpiekniignfcaaGreatDoorEqc
namespace Go.Proofs.YtnpiekniignfcaaGreatDoor
open Go.RowKit

/-! ### plain -/
theorem facts_cells : ∀ (l : List Fact) (i : Nat) (f : Fact), l[i]? = some f →
    (l.flatMap factC)[i * 5]? = some (.string f.name) ∧ (l.flatMap factC)[i * 5 + 1]? = some (.int .i64 f.least) ∧ (l.flatMap factC)[i * 5 + 2]? = some (.int .i64 f.most) ∧ (l.flatMap factC)[i * 5 + 3]? = some (.bool f.pure) ∧ (l.flatMap factC)[i * 5 + 4]? = some (.bool f.folds)
  | [], i, f, h => by simp at h
  | g :: l, 0, f, h => by
    simp only [List.getElem?_cons_zero, Option.some.injEq] at h
    subst h
    exact ⟨rfl, rfl, rfl, rfl, rfl⟩
  | g :: l, i + 1, f, h => by
    have := facts_cells l i f (by simpa using h)
    rw [List.flatMap_cons]
    have e : ∀ k, (factC g ++ l.flatMap factC)[(i + 1) * 5 + k]? = (l.flatMap factC)[i * 5 + k]? := by
      intro k
      rw [List.getElem?_append_right (by show 5 ≤ _; omega)]
      congr 1
      show (i + 1) * 5 + k - 5 = _
      omega
    have e0 := e 0
    simp only [Nat.add_zero] at e0
    rw [e0, e 1, e 2, e 3, e 4]
    exact this

theorem find_idx (s : ByteArray) : ∀ (l : List Fact) (i : Nat), Prims.findFrom s l i = match l.findIdx? (fun f => f.name.toList == s.toList) with | some j => (((i + j : Nat) : Int), true) | none => (0, false)
  | [], i => rfl
  | f :: l, i => by
    rw [Prims.findFrom, List.findIdx?_cons]
    by_cases h : f.name = s
    · rw [if_pos h, h]; simp
    · have h2 : (f.name.toList == s.toList) = false := by
        rw [Bool.eq_false_iff]
        intro h3
        apply h
        apply ByteArray.ext; apply Array.ext'
        rw [← ByteArray.toList_eq, ← ByteArray.toList_eq]; exact beq_iff_eq.1 h3
      rw [if_neg h, h2, find_idx s l (i + 1)]
      cases hq : l.findIdx? (fun f => f.name.toList == s.toList) with
      | none => simp
      | some j => simp; omega

theorem find_eq (s s' : ByteArray) (hs : s' = if s = ⟨#[37, 101, 113, 63]⟩ then ⟨#[101, 113, 63]⟩ else s) : Prims.find s = match Prims.table.findIdx? (fun f => f.name.toList == s'.toList) with | some j => ((j : Int), true) | none => (0, false) := by
  unfold Prims.find
  split
  · rename_i h
    rw [if_pos h] at hs
    subst hs
    decide +kernel
  · rename_i h
    rw [if_neg h] at hs
    subst hs
    rw [find_idx]
    cases Prims.table.findIdx? (fun f => f.name.toList == s'.toList) with
    | none => rfl
    | some j => simp

/-- IndexFunc's answer, exactly. -/
def idxInt : Option Nat → Int | some j => j | none => -1

theorem findIdx_none {p : Fact → Bool} {l : List Fact} (h : ∀ (i : Nat) (f : Fact), l[i]? = some f → p f = false) : l.findIdx? p = none := by
  rw [List.findIdx?_eq_none_iff]
  intro x hx
  obtain ⟨i, hi⟩ := List.getElem?_of_mem hx
  exact h i x hi

theorem findIdx_some {p : Fact → Bool} : ∀ {l : List Fact} {j : Nat} {f : Fact}, l[j]? = some f → p f = true → (∀ i g, i < j → l[i]? = some g → p g = false) → l.findIdx? p = some j
  | [], j, f, h, _, _ => by simp at h
  | g :: l, 0, f, h, hp, _ => by
    simp only [List.getElem?_cons_zero, Option.some.injEq] at h
    subst h
    rw [List.findIdx?_cons, if_pos hp]
  | g :: l, j + 1, f, h, hp, hb => by
    rw [List.findIdx?_cons, if_neg (by rw [hb 0 g (by omega) rfl]; simp), findIdx_some (l := l) (j := j) (by simpa using h) hp (fun i g hi hg => hb (i + 1) g (by omega) (by simpa using hg))]
    rfl

set_option maxHeartbeats 1000000 in
set_option maxRecDepth 100000 in
theorem indexFact_any (F : FuncId) (caps : Array Value) (p : Fact → Bool) (l : List Fact) (blk len cap : Nat) (w : World) (hl : len = l.length) (hcap : len ≤ cap) (hmax : cap ≤ 9223372036854775807)
    (hv : w.heap[blk]? = some (.cells (l.flatMap factC).toArray 54))
    (hF : ∀ (args : Array Value) (w : World), (callFunc F args).run Tryz.prog w = .ok (.enter F args) w)
    (H : ∀ f ∈ l, ∀ w', Below w.heap.size w w' → Calls Tryz.prog F (#[.agg #[.string f.name, .int .i64 f.least, .int .i64 f.most, .bool f.pure, .bool f.folds]] ++ caps) w' fun e w'' => e = .returned (.bool (p f)) ∧ Below w'.heap.size w' w'') :
    Calls Tryz.prog 40 #[.slice (some ⟨blk, 0, none⟩) len cap, .func (.func F) #[] caps] w fun e w' => e = .returned (.int .i64 (idxInt (l.findIdx? p))) ∧ Below w.heap.size w w' := by
  obtain ⟨r, hr⟩ : ∃ r, idxInt (l.findIdx? p) = r := ⟨_, rfl⟩
  rw [hr]
  have HR := Lib.hid hr
  have HV := Lib.hid hv
  have HL := Lib.hid hl
  have HH := Lib.hid H
  have hblk : blk < w.heap.size := (Array.getElem?_eq_some_iff.1 hv).1
  clear hr hv hl H
  go_enter Tryz.func40, Tryz.ntmps40
  go_wp2
  go_loopw [8] (fun i wr => ∃ (j : Nat), i = .int .i64 j ∧ j ≤ len ∧ Hid (∀ i f, i < j → l[i]? = some f → p f = false) ∧ Below w.heap.size w wr) (fun i _ => len - (intOf i).toNat)
  case atStart => exact ⟨0, rfl, by omega, Lib.hid (fun i f h => absurd h (by omega)), Below.refl _ _⟩
  case round =>
    obtain ⟨j, rfl, hj, HA, hb⟩ := hrel
    by_cases hjl : j < len
    · obtain ⟨f, hx⟩ : ∃ f, l[j]? = some f := ⟨_, List.getElem?_eq_getElem (by rw [← HL.out]; exact hjl)⟩
      obtain ⟨c0, c1, c2, c3, c4⟩ := facts_cells l j f hx
      have hvr := (hb.block _ hblk).trans HV.out
      have key : ∀ k u, (l.flatMap factC)[k]? = some u → wr.cell? ⟨blk, k, none⟩ = some u := by
        intro k u hu
        simp [World.cell?, hvr, hu]
      have e0 := key _ _ c0
      have e1 := key _ _ c1
      have e2 := key _ _ c2
      have e3 := key _ _ c3
      have e4 := key _ _ c4
      have hbl := cell_lt e0
      have HC := Lib.hid (HH.out _ (List.mem_of_getElem? hx) wr hb)
      have HX := Lib.hid hx
      obtain ⟨f0, f1, f2, f3, f4⟩ := f
      dsimp only at HC e0 e1 e2 e3 e4
      clear hx key hvr c0 c1 c2 c3 c4
      cases hp : p ⟨f0, f1, f2, f3, f4⟩ with
      | true =>
        rw [hp] at HC
        have HT := Lib.hid (findIdx_some HX.out hp HA.out)
        clear hp
        go_wp2_with (first | ((with_reducible refine HC.out.mono ?_); rintro e' w1 ⟨rfl, hb1⟩))
        go_ret
        exact ⟨by rw [← HR.out, HT.out]; rfl, Below.next hb hb1⟩
      | false =>
        rw [hp] at HC
        have HT := Lib.hid hp
        clear hp
        go_wp2_with (first | ((with_reducible refine HC.out.mono ?_); rintro e' w1 ⟨rfl, hb1⟩))
        go_roundw
        case rel =>
          refine ⟨j + 1, by go_num, by omega, Lib.hid ?_, Below.next hb hb1⟩
          intro i g hi hg
          by_cases hij : i < j
          · exact HA.out i g hij hg
          · obtain rfl : i = j := by omega
            have := HX.out.symm.trans hg
            simp only [Option.some.injEq] at this
            rw [← this]; exact HT.out
        case measure => simp [intOf]; omega
    · have HF := Lib.hid (findIdx_none (l := l) (p := p) (fun i f hf => HA.out i f (by have := (List.getElem?_eq_some_iff.1 hf).1; rw [← HL.out] at this; omega) hf))
      go_wp2
      go_ret
      exact ⟨by rw [← HR.out, HF.out]; rfl, hb⟩

theorem find1_any (f0 name : ByteArray) (f1 f2 : Int) (f3 f4 : Bool) (nb : Nat) (w : World) (h : w.cell? ⟨nb, 0, none⟩ = some (.string name)) :
    Calls Tryz.prog 41 #[.agg #[.string f0, .int .i64 f1, .int .i64 f2, .bool f3, .bool f4], .pointer (some ⟨nb, 0, none⟩)] w fun e w' => e = .returned (.bool (f0.toList == name.toList)) ∧ Below w.heap.size w w' := by
  have hlt := cell_lt h
  have HK := Lib.hid (fun X => (Below.refl w.heap.size w).alloc (Nat.le_refl _) X)
  go_enter Tryz.func41, Tryz.ntmps41
  go_wp2_with fail
  go_ret
  exact ⟨rfl, HK.out _⟩

set_option maxHeartbeats 1000000 in
set_option maxRecDepth 100000 in
theorem find_any (s : ByteArray) (w : World) :
    Calls Tryz.prog 22 #[.string s] w fun e w' => e = .returned (.tuple #[.int .i64 (Prims.find s).1, .bool (Prims.find s).2]) ∧ Below w.heap.size w w' := by
  by_cases hs : s = ⟨#[37, 101, 113, 63]⟩
  · subst hs
    have HF := Lib.hid (find_eq ⟨#[37, 101, 113, 63]⟩ ⟨#[101, 113, 63]⟩ (by rw [if_pos rfl]))
    obtain ⟨q, hq⟩ : ∃ q, Prims.table.findIdx? (fun f => f.name.toList == ByteArray.toList ⟨#[101, 113, 63]⟩) = q := ⟨_, rfl⟩
    have HQ := Lib.hid hq
    have HCI := Lib.hid (fun (w1 : World) (nb : Nat) (_ : Below w.heap.size w w1) (hn : w1.cell? ⟨nb, 0, none⟩ = some (.string ⟨#[101, 113, 63]⟩)) => indexFact_any 41 #[.pointer (some ⟨nb, 0, none⟩)] (fun f => f.name.toList == ByteArray.toList ⟨#[101, 113, 63]⟩) Prims.table w1.heap.size 31 31 (w1.alloc (.cells tableA 54)) (by kernel_rfl) (by omega) (by omega) (World.alloc_heap_new _ _) (fun _ _ => by kernel_rfl)
      (fun f _ w' hb => find1_any f.name _ f.least f.most f.pure f.folds nb w' ((hb.cell (p := ⟨nb, 0, none⟩) (by have := cell_lt hn; simp; omega)).trans (by rw [World.cell?_alloc_past _ _ _ (cell_lt hn)]; exact hn))))
    rw [hq] at HCI
    clear hq
    go_enter Tryz.func22, Tryz.ntmps22
    go_wp2_with fail
    refine (table_any _).mono ?_
    rintro e1 w1 ⟨rfl, hb1⟩
    have hbx : w1.heap[w.heap.size]? = some (.cells #[.string ⟨#[101, 113, 63]⟩] 9) := (hb1.block _ (by simp)).trans (World.alloc_heap_new _ _)
    obtain ⟨n0, n1, n2⟩ := one_cells hbx
    have HB1 := Lib.hid (one_below hb1)
    have hs1 := HB1.out.size
    clear hb1 hbx
    have hst := run_storeCells_new (P := Tryz.prog) w1 54 Tryz.zeroCells54 tableA (by kernel_rfl) (by rw [tableA_size]; exact Tryz.zeroCells54_size) tableA_one
    go_wp2_with fail
    refine (HCI.out w1 _ HB1.out n0).mono ?_
    rintro e1 w2 ⟨rfl, hb2⟩
    have HB2 := Lib.hid (Below.next HB1.out (one_below hb2))
    clear hb2 HCI
    cases q with
    | none =>
      have HF2 := Lib.hid (show Prims.find ⟨#[37, 101, 113, 63]⟩ = (0, false) by rw [HF.out, HQ.out])
      have h1 : max (-1 : Int) 0 = 0 := by decide
      simp only [idxInt]
      go_wp2_with fail
      refine bodyPost_ret (v := .tuple #[.int .i64 0, .bool false]) (by simp [results, Tryz.results22, go_sem]) rfl ⟨by rw [HF2.out], HB2.out⟩
    | some j =>
      have HF2 := Lib.hid (show Prims.find ⟨#[37, 101, 113, 63]⟩ = ((j : Int), true) by rw [HF.out, HQ.out])
      have hj : j < 31 := by
        have := (List.findIdx?_eq_some_iff_getElem.1 HQ.out).1
        exact this
      have h1 : max (j : Int) 0 = j := by omega
      have h2 : decide ((0 : Int) ≤ (j : Int)) = true := by simp
      simp only [idxInt]
      go_wp2_with fail
      refine bodyPost_ret (v := .tuple #[.int .i64 j, .bool true]) (by simp [results, Tryz.results22, go_sem]) rfl ⟨by rw [HF2.out], HB2.out⟩
  · have hs2 : (s.toList == [37, 101, 113, 63]) = false := by
      rw [Bool.eq_false_iff]
      intro h3
      apply hs
      apply ByteArray.ext; apply Array.ext'
      rw [← ByteArray.toList_eq]; exact beq_iff_eq.1 h3
    have HF := Lib.hid (find_eq s s (by rw [if_neg hs]))
    obtain ⟨q, hq⟩ : ∃ q, Prims.table.findIdx? (fun f => f.name.toList == ByteArray.toList s) = q := ⟨_, rfl⟩
    have HQ := Lib.hid hq
    have HCI := Lib.hid (fun (w1 : World) (nb : Nat) (_ : Below w.heap.size w w1) (hn : w1.cell? ⟨nb, 0, none⟩ = some (.string s)) => indexFact_any 41 #[.pointer (some ⟨nb, 0, none⟩)] (fun f => f.name.toList == ByteArray.toList s) Prims.table w1.heap.size 31 31 (w1.alloc (.cells tableA 54)) (by kernel_rfl) (by omega) (by omega) (World.alloc_heap_new _ _) (fun _ _ => by kernel_rfl)
      (fun f _ w' hb => find1_any f.name _ f.least f.most f.pure f.folds nb w' ((hb.cell (p := ⟨nb, 0, none⟩) (by have := cell_lt hn; simp; omega)).trans (by rw [World.cell?_alloc_past _ _ _ (cell_lt hn)]; exact hn))))
    rw [hq] at HCI
    clear hq
    go_enter Tryz.func22, Tryz.ntmps22
    go_wp2_with fail
    refine (table_any _).mono ?_
    rintro e1 w1 ⟨rfl, hb1⟩
    have hbx : w1.heap[w.heap.size]? = some (.cells #[.string s] 9) := (hb1.block _ (by simp)).trans (World.alloc_heap_new _ _)
    obtain ⟨n0, n1, n2⟩ := one_cells hbx
    have HB1 := Lib.hid (one_below hb1)
    have hs1 := HB1.out.size
    clear hb1 hbx
    have hst := run_storeCells_new (P := Tryz.prog) w1 54 Tryz.zeroCells54 tableA (by kernel_rfl) (by rw [tableA_size]; exact Tryz.zeroCells54_size) tableA_one
    go_wp2_with fail
    refine (HCI.out w1 _ HB1.out n0).mono ?_
    rintro e1 w2 ⟨rfl, hb2⟩
    have HB2 := Lib.hid (Below.next HB1.out (one_below hb2))
    clear hb2 HCI
    cases q with
    | none =>
      have HF2 := Lib.hid (show Prims.find s = (0, false) by rw [HF.out, HQ.out])
      have h1 : max (-1 : Int) 0 = 0 := by decide
      simp only [idxInt]
      go_wp2_with fail
      refine bodyPost_ret (v := .tuple #[.int .i64 0, .bool false]) (by simp [results, Tryz.results22, go_sem]) rfl ⟨by rw [HF2.out], HB2.out⟩
    | some j =>
      have HF2 := Lib.hid (show Prims.find s = ((j : Int), true) by rw [HF.out, HQ.out])
      have hj : j < 31 := by
        have := (List.findIdx?_eq_some_iff_getElem.1 HQ.out).1
        exact this
      have h1 : max (j : Int) 0 = j := by omega
      have h2 : decide ((0 : Int) ≤ (j : Int)) = true := by simp
      simp only [idxInt]
      go_wp2_with fail
      refine bodyPost_ret (v := .tuple #[.int .i64 j, .bool true]) (by simp [results, Tryz.results22, go_sem]) rfl ⟨by rw [HF2.out], HB2.out⟩
end Go.Proofs.YtnpiekniignfcaaGreatDoor

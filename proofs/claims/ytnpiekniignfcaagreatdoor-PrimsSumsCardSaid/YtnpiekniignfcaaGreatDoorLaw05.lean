/-
  Chapter 5: what the laws' walks share: FewAll, few, Fold by its answer, awake.
-/
import Derived.Test.YtnpiekniignfcaaGreatDoorDoes3
import Derived.Test.YtnpiekniignfcaaGreatDoorFind
import Derived.Deep.LoopGhost
namespace Go.Proofs.YtnpiekniignfcaaGreatDoor
open Go.RowKit

theorem fewL_iff : ∀ (l : List Dat) (left : Int), 0 ≤ left → (0 ≤ Dat.fewL l left ↔ (Dat.allL l : Int) ≤ left)
  | [], left, h => by simp [Dat.fewL, Dat.allL, h]
  | x :: l, left, h => by
    have hb := Dat.few_both x left
    have hi := Dat.few_iff x left
    rw [Dat.fewL, if_pos h, Dat.allL]
    by_cases hf : 0 ≤ Dat.few x left
    · rw [fewL_iff l _ hf, hb.1 (hi.1 hf)]
      omega
    · have h1 : ¬ (Dat.all x : Int) ≤ left := fun hh => hf (hi.2 hh)
      rw [fewL_neg _ hf]
      constructor
      · intro hh; exact absurd hh hf
      · intro hh; omega

set_option maxHeartbeats 1000000 in
set_option maxRecDepth 100000 in
theorem rfewAll_any (l : List Dat) (sl : Value) (left : Int) (B : Nat) (w : World) (hv : RepS w B l sl) (hB : B ≤ w.heap.size) (h0 : 0 ≤ left) (h1 : left ≤ 100000) (r : Bool) (hr : decide ((Dat.allL l : Int) ≤ left) = r) :
    Calls Tryz.prog 27 #[sl, .int .i64 left] w fun e w' => e = .returned (.bool r) ∧ Below w.heap.size w w' := by
  obtain ⟨o, len, cap, rfl, hl, hcap, hmax, hc⟩ := hv
  have HV := Lib.hid hc
  have HL := Lib.hid hl
  have HR := Lib.hid (show decide (0 ≤ Dat.fewL l left) = r by rw [← hr, Bool.eq_iff_iff]; simp only [decide_eq_true_eq]; exact fewL_iff l left h0)
  clear hc hl hr
  go_enter Tryz.func27, Tryz.ntmps27
  go_wp2_with fail
  go_loopg [1, 5] len (fun g a i wr => ∃ (cur : Int) (j : Nat), g = len - j ∧ a = .int .i64 cur ∧ i = .int .i64 j ∧ j ≤ len ∧ -1 ≤ cur ∧ cur ≤ 100000 ∧ Hid (Dat.fewL (l.drop j) cur = Dat.fewL l left) ∧ Below w.heap.size w wr)
  case atStart => exact ⟨left, 0, rfl, rfl, rfl, by omega, by omega, by omega, rfl, Below.refl _ _⟩
  case round =>
    obtain ⟨cur, j, rfl, rfl, rfl, hj, hc1, hc2, HF, hb⟩ := hrel
    have HB := Lib.hid hb
    have hsz := hb.size
    clear hb
    by_cases hjl : j < len
    · by_cases hcur : 0 ≤ cur
      · obtain ⟨x, hx⟩ : ∃ x, l[j]? = some x := ⟨_, List.getElem?_eq_getElem (by rw [← HL.out]; exact hjl)⟩
        obtain ⟨b1, off1, k1, n1, d1, s1, l1, o1, len1, cap1, ho1, hx1, e0, e1, e2, e3, e4, er⟩ := part_at2 HV.out (HB.out.mono hB) hx
        subst ho1 hx1
        have HX := Lib.hid hx
        have ER := Lib.hid er
        have HF2 := Lib.hid ((fewL_step hx hcur).symm.trans HF.out)
        have g1 := few_ge (.mk k1 n1 d1 s1 l1) cur hcur
        have g2 := Dat.few_le (.mk k1 n1 d1 s1 l1) cur
        obtain ⟨y, hy⟩ : ∃ y, Dat.few (.mk k1 n1 d1 s1 l1) cur = y := ⟨_, rfl⟩
        rw [hy] at g1 g2 HF2
        have HC := Lib.hid (rfew_any _ _ cur B wr ER.out (by omega) hcur (by omega))
        rw [hy] at HC
        clear hx er hy
        go_wp2_with fail
        refine HC.out.mono ?_
        rintro e1 w1 ⟨rfl, hb1⟩
        have HB1 := Lib.hid (Below.next HB.out hb1)
        clear hb1
        go_wp2_with fail
        go_roundg (len - (j + 1))
        case measure => omega
        case rel => exact ⟨y, j + 1, rfl, rfl, by go_num, by omega, by omega, by omega, HF2, HB1.out⟩
      · have HQ := Lib.hid (show decide (0 ≤ cur) = r by rw [← HR.out, ← HF.out, fewL_neg _ hcur])
        obtain rfl : false = r := by rw [← HQ.out, decide_eq_false hcur]
        go_wp2_with fail
        go_ret
        exact ⟨rfl, HB.out⟩
    · obtain rfl : len = j := by omega
      have HQ := Lib.hid (show decide (0 ≤ cur) = r by
          rw [← HR.out, ← HF.out, List.drop_eq_nil_of_le (by rw [← HL.out]; exact Nat.le_refl _)]; rfl)
      by_cases hcur : 0 ≤ cur
      · obtain rfl : true = r := by rw [← HQ.out, decide_eq_true hcur]
        go_wp2_with fail
        go_ret
        exact ⟨rfl, HB.out⟩
      · obtain rfl : false = r := by rw [← HQ.out, decide_eq_false hcur]
        go_wp2_with fail
        go_ret
        exact ⟨rfl, HB.out⟩

/-- few: at most so many data at the top, and at all. -/
def Dat.fewB (l : List Dat) (n : Int) : Bool := decide ((l.length : Int) ≤ n) && decide ((Dat.allL l : Int) ≤ n)
set_option maxHeartbeats 1000000 in
theorem few5_any (l : List Dat) (sl : Value) (left : Int) (B : Nat) (w : World) (hv : RepS w B l sl) (hB : B ≤ w.heap.size) (h0 : 0 ≤ left) (h1 : left ≤ 100000) (r : Bool) (hr : Dat.fewB l left = r) :
    Calls Tryz.prog 11 #[sl, .int .i64 left] w fun e w' => e = .returned (.bool r) ∧ Below w.heap.size w w' := by
  have HV := Lib.hid hv
  obtain ⟨o, len, cap, rfl, hl, hcap, hmax, hc⟩ := hv
  obtain ⟨q, hq⟩ : ∃ q, decide ((Dat.allL l : Int) ≤ left) = q := ⟨_, rfl⟩
  have HQ := Lib.hid hq
  have HR := Lib.hid (show (decide ((len : Int) ≤ left) && q) = r by rw [← hr, ← hq, Dat.fewB, hl])
  clear hc hl hr hq
  by_cases hle : (len : Int) ≤ left
  · have hd : decide ((len : Int) ≤ left) = true := decide_eq_true hle
    obtain rfl : q = r := by rw [← HR.out, hd]; rfl
    go_enter Tryz.func11, Tryz.ntmps11
    go_wp2_with fail
    refine (rfewAll_any l _ left B w HV.out hB h0 h1 q HQ.out).mono ?_
    rintro e1 w1 ⟨rfl, hb1⟩
    go_wp2_with fail
    go_ret
    exact ⟨rfl, hb1⟩
  · have hd : decide ((len : Int) ≤ left) = false := decide_eq_false hle
    obtain rfl : false = r := by rw [← HR.out, hd]; rfl
    go_enter Tryz.func11, Tryz.ntmps11
    go_wp2_with fail
    go_ret
    exact ⟨rfl, Below.refl _ _⟩

/-- Fold's answer, its data spelt out. -/
theorem FoldPost.at {B2 : Nat} {k n d z : Int} {s : ByteArray} {l : List Dat} {b : Bool} {w w' : World} {e : Ending} (h : FoldPost B2 (.mk k n d s l, z, b) w e w') :
    ∃ (o : Option Addr) (len cap : Nat), e = .returned (.tuple #[.agg #[.int .i64 k, .int .i64 n, .int .i64 d, .string s, .slice o len cap], .int .i64 z, .bool b]) ∧ RepD w' B2 (.mk k n d s l) (.agg #[.int .i64 k, .int .i64 n, .int .i64 d, .string s, .slice o len cap]) ∧ Below w.heap.size w w' := by
  obtain ⟨k', n', d', s', o, len, cap, rfl, hrep, hb⟩ := h
  obtain ⟨sl, he, _⟩ := hrep.open
  simp only [Value.agg.injEq, Array.mk.injEq, List.cons.injEq, Value.int.injEq, Value.string.injEq, true_and, and_true] at he
  obtain ⟨rfl, rfl, rfl, rfl, rfl⟩ := he
  exact ⟨o, len, cap, rfl, hrep, hb⟩

theorem fold_to (n : Int) (h0 : -9223372036854775808 ≤ n) (h1 : n ≤ 9223372036854775807) (l : List Dat) (sl : Value) (B : Nat) (w : World) (k' n' d' z : Int) (s' : ByteArray) (l' : List Dat) (b : Bool) (hf : Prims.fold n l = (.mk k' n' d' s' l', z, b)) (hv : RepS w B l sl) (hB : B ≤ w.heap.size) :
    Calls Tryz.prog 12 #[.int .i64 n, sl] w fun e w' => ∃ (o : Option Addr) (len cap : Nat), e = .returned (.tuple #[.agg #[.int .i64 k', .int .i64 n', .int .i64 d', .string s', .slice o len cap], .int .i64 z, .bool b]) ∧ RepD w' w.heap.size (.mk k' n' d' s' l') (.agg #[.int .i64 k', .int .i64 n', .int .i64 d', .string s', .slice o len cap]) ∧ Below w.heap.size w w' := by
  have := fold_any n h0 h1 l sl B w hv hB
  rw [hf] at this
  exact this.mono fun _ _ h => h.at

def awk1 : List Value := [.int .i64 0, .int .i64 1, .int .i64 2, .string ⟨#[]⟩, .slice none 0 0, .int .i64 0, .int .i64 1, .int .i64 3, .string ⟨#[]⟩, .slice none 0 0]
def awk2 : List Value := [.int .i64 4, .int .i64 0, .int .i64 0, .string ⟨#[]⟩, .slice none 0 0]
theorem awk1_rep (w : World) (B : Nat) : CellsD w B [Prims.num 1 2, Prims.num 1 3] awk1 :=
  ⟨_, _, _, _, _, _, rfl, rep_leaf 0 1 2 ⟨#[]⟩ (by omega) (by omega) (by omega) (by decide), _, _, _, _, _, _, rfl, rep_leaf 0 1 3 ⟨#[]⟩ (by omega) (by omega) (by omega) (by decide), rfl⟩
theorem awk2_rep (w : World) (B : Nat) : CellsD w B [Dat.null] awk2 :=
  ⟨_, _, _, _, _, _, rfl, rep_leaf 4 0 0 ⟨#[]⟩ (by omega) (by omega) (by omega) (by decide), rfl⟩

theorem fold_ex0 : Prims.fold 0 [Prims.num 1 2, Prims.num 1 3] = (.mk 0 5 6 ⟨#[]⟩ [], 0, true) := by kernel_rfl
theorem fold_ex18 : Prims.fold 18 [Dat.null] = (.mk 0 0 0 ⟨#[]⟩ [], 1, true) := by kernel_rfl

set_option maxHeartbeats 2000000 in
set_option maxRecDepth 100000 in
theorem awake5_any (w : World) : Calls Tryz.prog 10 #[] w fun e w' => e = .returned (.bool true) ∧ Below w.heap.size w w' := by
  have H1 : Hid (∀ (W : World) (t : TypeId), Calls Tryz.prog 12 #[.int .i64 0, .slice (some ⟨W.heap.size, 0, none⟩) 2 2] (W.alloc (.cells #[.int .i64 0, .int .i64 1, .int .i64 2, .string ⟨#[]⟩, .slice none 0 0, .int .i64 0, .int .i64 1, .int .i64 3, .string ⟨#[]⟩, .slice none 0 0] t)) fun e w' => ∃ (o : Option Addr) (len cap : Nat), e = .returned (.tuple #[.agg #[.int .i64 0, .int .i64 5, .int .i64 6, .string ⟨#[]⟩, .slice o len cap], .int .i64 0, .bool true]) ∧ RepD w' (W.alloc (.cells #[.int .i64 0, .int .i64 1, .int .i64 2, .string ⟨#[]⟩, .slice none 0 0, .int .i64 0, .int .i64 1, .int .i64 3, .string ⟨#[]⟩, .slice none 0 0] t)).heap.size (.mk 0 5 6 ⟨#[]⟩ []) (.agg #[.int .i64 0, .int .i64 5, .int .i64 6, .string ⟨#[]⟩, .slice o len cap]) ∧ Below (W.alloc (.cells #[.int .i64 0, .int .i64 1, .int .i64 2, .string ⟨#[]⟩, .slice none 0 0, .int .i64 0, .int .i64 1, .int .i64 3, .string ⟨#[]⟩, .slice none 0 0] t)).heap.size (W.alloc (.cells #[.int .i64 0, .int .i64 1, .int .i64 2, .string ⟨#[]⟩, .slice none 0 0, .int .i64 0, .int .i64 1, .int .i64 3, .string ⟨#[]⟩, .slice none 0 0] t)) w') := Lib.hid (fun (W : World) (t : TypeId) => fold_to 0 (by omega) (by omega) [Prims.num 1 2, Prims.num 1 3] _ _ (W.alloc (.cells awk1.toArray t)) 0 5 6 0 ⟨#[]⟩ [] true fold_ex0 (repS_new (n := 2) rfl (by omega) (awk1_rep W _)) (Nat.le_refl _))
  have H2 : Hid (∀ (W : World) (X : Obj) (t : TypeId), Calls Tryz.prog 12 #[.int .i64 18, .slice (some ⟨W.heap.size + 1, 0, none⟩) 1 1] ((W.alloc X).alloc (.cells #[.int .i64 4, .int .i64 0, .int .i64 0, .string ⟨#[]⟩, .slice none 0 0] t)) fun e w' => ∃ (o : Option Addr) (len cap : Nat), e = .returned (.tuple #[.agg #[.int .i64 0, .int .i64 0, .int .i64 0, .string ⟨#[]⟩, .slice o len cap], .int .i64 1, .bool true]) ∧ Below (W.heap.size + 2) ((W.alloc X).alloc (.cells #[.int .i64 4, .int .i64 0, .int .i64 0, .string ⟨#[]⟩, .slice none 0 0] t)) w') := Lib.hid (fun W X t => by
    have := fold_to 18 (by omega) (by omega) [Dat.null] _ _ ((W.alloc X).alloc (.cells awk2.toArray t)) 0 0 0 1 ⟨#[]⟩ [] true fold_ex18 (repS_new (n := 1) rfl (by omega) (awk2_rep (W.alloc X) _)) (Nat.le_refl _)
    rw [World.size_alloc] at this
    exact this.mono fun e w' h => by
      obtain ⟨o, len, cap, he, _, hb⟩ := h
      exact ⟨o, len, cap, he, hb.mono (by simp)⟩)
  go_enter Tryz.func10, Tryz.ntmps10
  go_wp2_with fail
  with_reducible refine (H1.out w _).mono ?_
  rintro e1 w1 ⟨o1, len1, cap1, rfl, hr1, hb1⟩
  have HB1 := Lib.hid (one_below hb1)
  have hs1 := HB1.out.size
  clear hb1 hr1
  go_wp2_with fail
  with_reducible refine (H2.out _ _ _).mono ?_
  rintro e2 w2 ⟨o2, len2, cap2, rfl, hb2⟩
  have hbx := (hb2.block w1.heap.size (by omega)).trans (Below.heap_alloc (w1.alloc (.cells #[.int .i64 0, .int .i64 5, .int .i64 6, .string ⟨#[]⟩, .slice o1 len1 cap1] 26)) _ _ (by simp))
  have hbox : Box5 w2 w1.heap.size 26 (.int .i64 0) (.int .i64 5) (.int .i64 6) (.string ⟨#[]⟩) (.slice o1 len1 cap1) := hbx.trans (Box5.new _ _ _ _ _ _ _)
  have HB2 := Lib.hid (((HB1.out.alloc hs1 _).alloc (by simp; omega) _).trans (hb2.mono (by omega)))
  have hs2 := HB2.out.size
  obtain ⟨q0, q1, q2, q3, q4⟩ := hbox.cells
  have hlt := hbox.lt
  clear hb2 hbx hbox
  go_wp2_with fail
  go_ret
  exact ⟨rfl, HB2.out.alloc hs2 _⟩
end Go.Proofs.YtnpiekniignfcaaGreatDoor

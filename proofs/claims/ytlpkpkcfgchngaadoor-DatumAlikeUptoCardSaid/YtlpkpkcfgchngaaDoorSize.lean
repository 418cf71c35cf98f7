/-
  The contract of datum.Size: a closure that calls itself.
-/
import Derived.Test.YtlpkpkcfgchngaaDoorFew
import Derived.Laws.EntriesVeiled
namespace Go.Proofs.YtlpkpkcfgchngaaDoor
open Go.RowKit

theorem sizeL_step {l : List Dat} {i : Nat} {x : Dat} {deep : Nat} (h : l[i]? = some x) : Dat.sizeL (l.take (i + 1)) deep = Dat.sizeL (l.take i) deep + Dat.size x deep := by
  induction l generalizing i with
  | nil => simp at h
  | cons y l ih =>
    cases i with
    | zero =>
      simp only [List.getElem?_cons_zero, Option.some.injEq] at h
      subst h; simp [Dat.sizeL]
    | succ i =>
      have := ih (i := i) (by simpa using h)
      simp only [List.take_succ_cons, Dat.sizeL, this]; omega

theorem sizeL_le (l : List Dat) (deep : Nat) : Dat.sizeL l deep ≤ Dat.allL l := by
  induction l with
  | nil => simp [Dat.sizeL, Dat.allL]
  | cons x l ih =>
    have := Dat.size_le x deep
    simp only [Dat.sizeL, Dat.allL]; omega

theorem allL_take (l : List Dat) (j : Nat) : Dat.allL (l.take j) ≤ Dat.allL l := by
  have h := Dat.allL_append (l.take j) (l.drop j)
  rw [List.take_append_drop] at h
  omega

set_option maxHeartbeats 1000000 in
set_option maxRecDepth 100000 in
theorem size1_any : ∀ (x : Dat) (v : Value) (deep c : Nat) (di : Int) (B : Nat) (w : World), di = deep → RepD w B x v → B ≤ w.heap.size → c < w.heap.size → w.cell? ⟨c, 0, none⟩ = some (.func (.func 23) #[] #[.pointer (some ⟨c, 0, none⟩)]) → deep ≤ 1000 → Dat.all x ≤ 1000000 →
    Calls Tryd.prog 23 #[v, .int .i64 di, .pointer (some ⟨c, 0, none⟩)] w fun e w' => e = .returned (.int .i64 (Dat.size x deep : Nat)) ∧ Below w.heap.size w w' := by
  intro x
  induction x using Dat.ind with
  | h k n d s l ih =>
    intro v deep c di B w hdi hv hB hc hfn hdeep hall
    subst hdi
    obtain ⟨sl, rfl, _, _, _, _, o, len, cap, rfl, hlen, hcap, hmax, hc0⟩ := hv.open
    have IH := Lib.hid ih
    have HV := Lib.hid hc0
    have HL := Lib.hid hlen
    clear ih hv hc0 hlen
    by_cases hd0 : ¬ deep < 1000
    · have HR := Lib.hid (show Dat.size (.mk k n d s l) deep = 1 by rw [Dat.size, if_neg hd0])
      go_enter Tryd.func23, Tryd.ntmps23
      go_wp2
      go_ret
      exact ⟨ret_int (by rw [HR.out]; rfl), (Below.refl _ _).alloc (Nat.le_refl _) _⟩
    have hd1 : deep < 1000 := by omega
    have HR := Lib.hid (show Dat.size (.mk k n d s l) deep = 1 + Dat.sizeL l (deep + 1) by rw [Dat.size, if_pos hd1])
    have HA := Lib.hid (show Dat.allL l ≤ 1000000 by rw [Dat.all] at hall; omega)
    clear hall hd0
    have hd2 : decide ((deep : Int) < 1000) = true := decide_eq_true (by omega)
    go_enter Tryd.func23, Tryd.ntmps23
    go_wp2
    go_loopw [6, 14] (fun m i wr => ∃ (j : Nat), m = .int .i64 ((1 + Dat.sizeL (l.take j) (deep + 1) : Nat) : Int) ∧ i = .int .i64 j ∧ j ≤ len ∧ Below (w.heap.size + 1) (w.alloc (.cells #[.int .i64 k, .int .i64 n, .int .i64 d, .string s, .slice o len cap] 24)) wr) (fun _ i _ => len - (intOf i).toNat)
    case atStart => exact ⟨0, by simp [Dat.sizeL], rfl, by omega, Below.refl _ _⟩
    case round =>
      obtain ⟨j, rfl, rfl, hj, hb⟩ := hrel
      have hbw : Below w.heap.size w wr := ((Below.refl _ _).alloc (Nat.le_refl _) _).trans (hb.mono (by omega))
      by_cases hjl : j < len
      · obtain ⟨x, hx⟩ : ∃ x, l[j]? = some x := ⟨_, List.getElem?_eq_getElem (by rw [← HL.out]; exact hjl)⟩
        obtain ⟨b, off, k', n', d', s', l', o', len', cap', ho, hxe, e0, e1, e2, e3, e4, er⟩ := part_at2 HV.out (hbw.mono hB) hx
        subst ho hxe
        have HS := Lib.hid (sizeL_step (deep := deep + 1) hx)
        have g1 := Dat.all_mem (List.mem_of_getElem? hx)
        have g2 := HA.out
        have g3 : Dat.sizeL (l.take j) (deep + 1) ≤ 1000000 := Nat.le_trans (sizeL_le _ _) (Nat.le_trans (allL_take l j) HA.out)
        have HX := Lib.hid hx
        have ER := Lib.hid er
        have hsz := hbw.size
        have hfw : wr.cell? ⟨c, 0, none⟩ = some (.func (.func 23) #[] #[.pointer (some ⟨c, 0, none⟩)]) := by
          rw [hbw.cell (p := ⟨c, 0, none⟩) hc]; exact hfn
        have hcn : ¬ c = wr.heap.size := by omega
        have hcw : c < wr.heap.size := by omega
        clear hx er hfn
        obtain ⟨y, hy⟩ : ∃ y, Dat.size (.mk k' n' d' s' l') (deep + 1) = y := ⟨_, rfl⟩
        have g4 := Dat.size_le (.mk k' n' d' s' l') (deep + 1)
        rw [hy] at HS g4
        have HY := Lib.hid hy
        clear hy
        have g5 : Dat.all (.mk k' n' d' s' l') ≤ 1000000 := by omega
        have HW : ∀ X, Below wr.heap.size wr (wr.alloc X) := fun X => (Below.refl _ _).alloc (Nat.le_refl _) _
        have HWH := Lib.hid HW
        clear HW
        have HFW := Lib.hid hfw
        go_wp2_with (first | (go_at_call 23; refine (IH.out (.mk k' n' d' s' l') (List.mem_of_getElem? HX.out) _ (deep + 1) c _ B _ (by omega) (ER.out.kept ((HWH.out _).mono (by omega))) (by simp; omega) (by simp; omega) ((below_cells (HWH.out _) c 0 hcw).trans HFW.out) (by omega) g5).mono ?_; rw [HY.out]; rintro e' w1 ⟨rfl, hb1⟩))
        go_roundw
        case rel => exact ⟨j + 1, by rw [HS.out]; go_num, by go_num, by omega, hb.trans (((HWH.out _).mono (by have := hb.size; simp at this; omega)).trans (hb1.mono (by have := hb.size; simp at this ⊢; omega)))⟩
        case measure => simp [intOf]; omega
      · have HR2 := Lib.hid (show Dat.sizeL (l.take j) (deep + 1) = Dat.sizeL l (deep + 1) by rw [List.take_of_length_le (by rw [← HL.out]; omega)])
        go_wp2
        go_ret
        exact ⟨ret_int (by rw [HR.out, HR2.out]), hbw⟩

theorem heap_alloc_size (w : World) (A : Obj) : (w.alloc A).heap.size = w.heap.size + 1 := by simp

theorem box_cell2 (w : World) (A : Obj) (cs : Array Value) (t : TypeId) (i : Nat) {v : Value} (h : cs[i]? = some v) : ((w.alloc A).alloc (.cells cs t)).cell? ⟨w.heap.size + 1, i, none⟩ = some v := by
  have := box_cell (w.alloc A) cs t i h
  rw [heap_alloc_size] at this
  exact this

set_option maxRecDepth 100000 in
theorem size_any (x : Dat) (v : Value) (B : Nat) (w : World) (hv : RepD w B x v) (hB : B ≤ w.heap.size) (ha : Dat.all x ≤ 1000000) :
    Calls Tryd.prog 12 #[v] w fun e w' => e = .returned (.int .i64 (Dat.size x 0 : Nat)) ∧ Below w.heap.size w w' := by
  obtain ⟨k, n, d, s, l⟩ := x
  obtain ⟨sl, rfl, _, _, _, _, o, len, cap, rfl, hx⟩ := hv.open
  clear hx
  have HV := Lib.hid hv
  have HA := Lib.hid ha
  clear hv ha
  go_enter Tryd.func12, Tryd.ntmps12
  have HW := Lib.hid (fun X Y => ((Below.refl w.heap.size w).alloc (Nat.le_refl _) X).alloc (by simp) Y)
  obtain ⟨y, hy⟩ : ∃ y, Dat.size (.mk k n d s l) 0 = y := ⟨_, rfl⟩
  rw [hy]
  have HY := Lib.hid hy
  clear hy
  go_wp2_with fail
  have hR := HV.out
  refine (size1_any (.mk k n d s l) _ 0 (w.heap.size + 1) 0 B _ rfl (HV.out.kept ((HW.out _ _).mono hB)) ?_ ?_ (box_cell2 _ _ _ _ 0 rfl) (by omega) HA.out).mono ?_
  · simp; omega
  · simp
  rw [HY.out]
  rintro e' w1 ⟨rfl, hb1⟩
  go_wp2
  go_ret
  exact ⟨rfl, (HW.out _ _).trans (hb1.mono (by simp; omega))⟩
end Go.Proofs.YtlpkpkcfgchngaaDoor

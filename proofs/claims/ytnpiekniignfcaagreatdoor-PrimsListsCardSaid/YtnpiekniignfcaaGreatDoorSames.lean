/-
  The contracts of slices.EqualFunc, datum.equal, Same.
-/
import Derived.Test.YtnpiekniignfcaaGreatDoorRights
import Derived.Test.YtnpiekniignfcaaGreatDoorRows2
import Derived.Test.YtnpiekniignfcaaGreatDoorWrites2
import Derived.Test.YtnpiekniignfcaaGreatDoorListUp
import Derived.Deep.LoopGhost
import Derived.OwnWalk
namespace Go.Proofs.YtnpiekniignfcaaGreatDoor
open Go.RowKit

/-- Two lists, part by part. -/
def all2 (q : Dat → Dat → Bool) : List Dat → List Dat → Bool
  | [], [] => true
  | x :: l, y :: m => q x y && all2 q l m
  | _, _ => false

theorem all2_len {q : Dat → Dat → Bool} : ∀ {l m : List Dat}, all2 q l m = true → l.length = m.length
  | [], [], _ => rfl
  | x :: l, y :: m, h => by
    rw [all2, Bool.and_eq_true] at h
    simp [all2_len h.2]
  | [], _ :: _, h => by cases h
  | _ :: _, [], h => by cases h

theorem all2_false {q : Dat → Dat → Bool} : ∀ {l m : List Dat} {i : Nat} {x y : Dat}, l[i]? = some x → m[i]? = some y → q x y = false → all2 q l m = false
  | [], _, i, x, y, h, _, _ => by simp at h
  | _ :: _, [], i, x, y, _, h, _ => by simp at h
  | a :: l, b :: m, 0, x, y, h, h', hq => by
    simp only [List.getElem?_cons_zero, Option.some.injEq] at h h'
    subst h h'
    simp [all2, hq]
  | a :: l, b :: m, i + 1, x, y, h, h', hq => by
    rw [all2, all2_false (l := l) (m := m) (i := i) (by simpa using h) (by simpa using h') hq, Bool.and_false]

theorem all2_all {q : Dat → Dat → Bool} : ∀ {l m : List Dat}, l.length = m.length → (∀ (i : Nat) (x y : Dat), l[i]? = some x → m[i]? = some y → q x y = true) → all2 q l m = true
  | [], [], _, _ => rfl
  | x :: l, y :: m, h, H => by
    rw [all2, H 0 x y rfl rfl, all2_all (by simpa using h) (fun i a b ha hb => H (i + 1) a b (by simpa using ha) (by simpa using hb))]; rfl
  | [], _ :: _, h, _ => by simp at h
  | _ :: _, [], h, _ => by simp at h

theorem alikeL_all2 : ∀ l m : List Dat, Dat.alikeL l m = all2 Dat.alike l m
  | [], [] => rfl
  | x :: l, y :: m => by rw [Dat.alikeL, all2, alikeL_all2 l m]
  | [], _ :: _ => rfl
  | _ :: _, [] => rfl

set_option maxHeartbeats 1000000 in
set_option maxRecDepth 100000 in
theorem equalFunc_any (F : FuncId) (caps : Array Value) (q : Dat → Dat → Bool) (r : Bool) (l m : List Dat) (sl sm : Value) (B : Nat) (w : World) (hl : RepS w B l sl) (hm : RepS w B m sm) (hB : B ≤ w.heap.size)
    (hF : ∀ (args : Array Value) (w : World), (callFunc F args).run Tryz.prog w = .ok (.enter F args) w)
    (H : ∀ x ∈ l, ∀ y ∈ m, ∀ v u w', RepD w' B x v → RepD w' B y u → Below w.heap.size w w' → Calls Tryz.prog F (#[v, u] ++ caps) w' fun e w'' => e = .returned (.bool (q x y)) ∧ Below w'.heap.size w' w'') (hr : all2 q l m = r) :
    Calls Tryz.prog 67 #[sl, sm, .func (.func F) #[] caps] w fun e w' => e = .returned (.bool r) ∧ Below w.heap.size w w' := by
  obtain ⟨o, len, cap, rfl, hl1, hcap, hmax, hv⟩ := hl
  obtain ⟨o2, len2, cap2, rfl, hm1, hcap2, hmax2, hv2⟩ := hm
  have HR := Lib.hid hr
  have HV := Lib.hid hv
  have HV2 := Lib.hid hv2
  have HL := Lib.hid hl1
  have HM := Lib.hid hm1
  have HH := Lib.hid H
  clear hr hv hv2 hl1 hm1 H
  by_cases hne : len = len2
  · subst hne
    have hnn : ((len : Int) != (len : Int)) = false := by simp
    go_enter Tryz.func67, Tryz.ntmps67
    go_wp2
    go_loopw [17] (fun i wr => ∃ (j : Nat), i = .int .i64 j ∧ j ≤ len ∧ Hid (∀ (i : Nat) (x y : Dat), i < j → l[i]? = some x → m[i]? = some y → q x y = true) ∧ Below w.heap.size w wr) (fun i _ => len - (intOf i).toNat)
    case atStart => exact ⟨0, rfl, by omega, Lib.hid (fun i x y h => absurd h (Nat.not_lt_zero _)), Below.refl _ _⟩
    case round =>
      obtain ⟨j, rfl, hj, HA, hb⟩ := hrel
      by_cases hjl : j < len
      · obtain ⟨x, hx⟩ : ∃ x, l[j]? = some x := ⟨_, List.getElem?_eq_getElem (by rw [← HL.out]; exact hjl)⟩
        obtain ⟨y, hy⟩ : ∃ y, m[j]? = some y := ⟨_, List.getElem?_eq_getElem (by rw [← HM.out]; exact hjl)⟩
        obtain ⟨b, off, k', n', d', s', l', o', len', cap', ho, hxe, e0, e1, e2, e3, e4, er⟩ := part_at2 HV.out (hb.mono hB) hx
        obtain ⟨b2, off2, k2, n2, d2, s2, l2, o2', len2, cap2', ho2, hye, f0, f1, f2, f3, f4, fr⟩ := part_at2 HV2.out (hb.mono hB) hy
        subst ho hxe ho2 hye
        have HX := Lib.hid hx
        have HY := Lib.hid hy
        have ER := Lib.hid er
        have FR := Lib.hid fr
        clear hx hy er fr
        have hs := hb.size
        have hw1 : b < wr.heap.size := cell_lt e0
        have hw2 : b2 < wr.heap.size := cell_lt f0
        have hw1' : b < wr.heap.size + 1 := by omega
        have hw2' : b2 < wr.heap.size + 1 := by omega
        have HK := Lib.hid (fun X Y => ((Below.refl wr.heap.size wr).alloc (Nat.le_refl _) X).alloc (by simp) Y)
        have HC := Lib.hid (fun X Y => HH.out _ (List.mem_of_getElem? HX.out) _ (List.mem_of_getElem? HY.out) _ _ ((wr.alloc X).alloc Y) (ER.out.kept ((HK.out X Y).mono (by omega))) (FR.out.kept ((HK.out X Y).mono (by omega))) (Below.next hb (HK.out X Y)))
        cases hq : q (.mk k' n' d' s' l') (.mk k2 n2 d2 s2 l2) with
        | true =>
          rw [hq] at HC
          have HT := Lib.hid hq
          clear hq
          go_wp2_with (first | ((with_reducible refine (HC.out _ _).mono ?_); rintro e' w1 ⟨rfl, hb1⟩))
          go_roundw
          case rel =>
            refine ⟨j + 1, by go_num, by omega, Lib.hid ?_, (Below.next hb (HK.out _ _)).trans (hb1.mono (by simp; omega))⟩
            intro i x y hi hx hy
            by_cases hij : i < j
            · exact HA.out i x y hij hx hy
            · obtain rfl : i = j := by omega
              have h1 := HX.out.symm.trans hx
              have h2 := HY.out.symm.trans hy
              simp only [Option.some.injEq] at h1 h2
              rw [← h1, ← h2]; exact HT.out
          case measure => simp [intOf]; omega
        | false =>
          rw [hq] at HC
          have HT := Lib.hid (all2_false HX.out HY.out hq)
          clear hq
          go_wp2_with (first | ((with_reducible refine (HC.out _ _).mono ?_); rintro e' w1 ⟨rfl, hb1⟩))
          go_ret
          exact ⟨ret_bool (by rw [← HR.out, HT.out]), (Below.next hb (HK.out _ _)).trans (hb1.mono (by simp; omega))⟩
      · have HT := Lib.hid (all2_all (q := q) (l := l) (m := m) (by rw [← HL.out, ← HM.out]) (fun i x y hx hy => HA.out i x y (by
          have := (List.getElem?_eq_some_iff.1 hx).1; rw [← HL.out] at this; omega) hx hy))
        go_wp2
        go_ret
        exact ⟨ret_bool (by rw [← HR.out, HT.out]), hb⟩
  · have hnn : ((len : Int) != (len2 : Int)) = true := by simp; omega
    have HT := Lib.hid (show all2 q l m = false by
      cases h : all2 q l m with
      | false => rfl
      | true => exact absurd (all2_len h) (by rw [← HL.out, ← HM.out]; exact hne))
    go_enter Tryz.func67, Tryz.ntmps67
    go_wp2
    go_ret
    exact ⟨ret_bool (by rw [← HR.out, HT.out]), Below.self _⟩

/-! ### equal -/
theorem equal_no {k n d k' n' d' : Int} {s s' : ByteArray} {q r : Bool} (h : ((decide (k = k') && (decide (n = n') && (decide (d = d') && decide (s = s')))) && q) = r)
    (hno : ¬ k = k' ∨ ¬ n = n' ∨ ¬ d = d' ∨ ¬ s.toList = s'.toList) : false = r := by
  rw [← h]
  by_cases h1 : k = k' ∧ n = n' ∧ d = d' ∧ s = s'
  · obtain ⟨rfl, rfl, rfl, rfl⟩ := h1
    rcases hno with h | h | h | h <;> exact absurd rfl h
  · symm
    rw [Bool.and_eq_false_iff]
    apply Decidable.byContradiction
    intro h2
    apply h1
    simp only [not_or, Bool.not_eq_false, Bool.and_eq_true, decide_eq_true_eq] at h2
    exact h2.1

theorem equal_yes {k n d k' n' d' : Int} {s s' : ByteArray} {q r : Bool} (h : ((decide (k = k') && (decide (n = n') && (decide (d = d') && decide (s = s')))) && q) = r)
    (h0 : k = k') (h1 : n = n') (h2 : d = d') (h3 : s.toList = s'.toList) : q = r := by
  have e : s = s' := by
    apply ByteArray.ext; apply Array.ext'
    rw [← ByteArray.toList_eq, ← ByteArray.toList_eq]; exact h3
  rw [← h, decide_eq_true h0, decide_eq_true h1, decide_eq_true h2, decide_eq_true e]; rfl

set_option maxHeartbeats 4000000 in
set_option maxRecDepth 100000 in
theorem equal_any : ∀ (x y : Dat) (v u : Value) (B : Nat) (w : World), RepD w B x v → RepD w B y u → B ≤ w.heap.size →
    Calls Tryz.prog 43 #[v, u] w fun e w' => e = .returned (.bool (Dat.alike x y)) ∧ Below w.heap.size w w' := by
  intro x
  induction x using Dat.ind with
  | h k n d s l ih =>
    intro y v u B w hv hu hB
    obtain ⟨k', n', d', s', l'⟩ := y
    obtain ⟨r, hr⟩ : ∃ r, Dat.alike (.mk k n d s l) (.mk k' n' d' s' l') = r := ⟨_, rfl⟩
    rw [hr]
    rw [Dat.alike, alikeL_all2] at hr
    have HR := Lib.hid hr
    obtain ⟨sl, rfl, _, _, _, _, hs⟩ := hv.open
    obtain ⟨sm, rfl, _, _, _, _, hs'⟩ := hu.open
    have HS := Lib.hid hs
    have HS' := Lib.hid hs'
    have IH := Lib.hid ih
    clear ih hv hu hr hs hs'
    have HK := Lib.hid (fun X Y => ((Below.refl w.heap.size w).alloc (Nat.le_refl _) X).alloc (by simp) Y)
    go_enter Tryz.func43, Tryz.ntmps43
    go_wp2_with fail
    · refine (equalFunc_any 43 #[] Dat.alike r l l' sl sm B _ (HS.out.kept ((HK.out _ _).mono hB)) (HS'.out.kept ((HK.out _ _).mono hB)) (by simp; omega) (fun _ _ => by kernel_rfl)
        (fun x hx y _ v u w' hxv hyu hb => IH.out x hx y v u B w' hxv hyu (by have := hb.size; simp at this; omega)) (equal_yes HR.out (by assumption) (by assumption) (by assumption) (by assumption))).mono ?_
      rintro e' w1 ⟨rfl, hb1⟩
      go_wp2
      go_ret
      exact ⟨rfl, (HK.out _ _).trans (hb1.mono (by simp; omega))⟩
    all_goals
      go_ret
      refine ⟨ret_bool (equal_no HR.out ?_), HK.out _ _⟩
      first
      | exact .inr (.inr (.inr ‹_›))
      | exact .inr (.inr (.inl ‹_›))
      | exact .inr (.inl ‹_›)
      | exact .inl ‹_›

set_option maxHeartbeats 4000000 in
theorem same_any (x y : Dat) (v u : Value) (B : Nat) (w : World) (hv : RepD w B x v) (hu : RepD w B y u) (hB : B ≤ w.heap.size) :
    Calls Tryz.prog 26 #[v, u] w fun e w' => e = .returned (.bool (Dat.right x 0 && (Dat.right y 0 && Dat.alike x y))) ∧ Below w.heap.size w w' := by
  obtain ⟨r, hr⟩ : ∃ r, (Dat.right x 0 && (Dat.right y 0 && Dat.alike x y)) = r := ⟨_, rfl⟩
  rw [hr]
  have HR := Lib.hid hr
  obtain ⟨k, n, d, s, o, len, cap, rfl⟩ := agg_of hv
  obtain ⟨k', n', d', s', o', len', cap', rfl⟩ := agg_of hu
  have HV := Lib.hid hv
  have HU := Lib.hid hu
  clear hv hu hr
  have HK := Lib.hid (fun X Y => ((Below.refl w.heap.size w).alloc (Nat.le_refl _) X).alloc (by simp) Y)
  have C1 := Lib.hid (fun W (hb : Below w.heap.size w W) => dright_any x _ B W (HV.out.kept (hb.mono hB)) (Nat.le_trans hB hb.size))
  have C2 := Lib.hid (fun W (hb : Below w.heap.size w W) => dright_any y _ B W (HU.out.kept (hb.mono hB)) (Nat.le_trans hB hb.size))
  have C3 := Lib.hid (fun W (hb : Below w.heap.size w W) => equal_any x y _ _ B W (HV.out.kept (hb.mono hB)) (HU.out.kept (hb.mono hB)) (Nat.le_trans hB hb.size))
  go_enter Tryz.func26, Tryz.ntmps26
  go_wp2_with fail
  refine (C1.out _ (HK.out _ _)).mono ?_
  cases hx : Dat.right x 0 with
  | false =>
    have H1 := Lib.hid (show r = false by rw [← HR.out, hx]; rfl)
    clear hx
    rintro e' w1 ⟨rfl, hb⟩
    go_wp2
    go_ret
    exact ⟨ret_bool H1.out.symm, two_below hb⟩
  | true =>
    have H1 := Lib.hid (show r = (Dat.right y 0 && Dat.alike x y) by rw [← HR.out, hx]; rfl)
    clear hx
    rintro e' w1 ⟨rfl, hb⟩
    have hz := two_size hb
    have z0 : w.heap.size < w1.heap.size := (by omega)
    have z1 : w.heap.size + 1 < w1.heap.size := (by omega)
    obtain ⟨q0, q1, q2, q3, q4⟩ := two_five hb
    obtain ⟨p0, p1, p2, p3, p4⟩ := two_five2 hb
    have HB := Lib.hid (two_below hb)
    clear hb
    go_wp2_with fail
    refine (C2.out _ HB.out).mono ?_
    cases hx : Dat.right y 0 with
    | false =>
      have H2 := Lib.hid (show r = false by rw [H1.out, hx]; rfl)
      clear hx
      rintro e' w2 ⟨rfl, hb2⟩
      go_wp2
      go_ret
      exact ⟨ret_bool H2.out.symm, Below.next HB.out hb2⟩
    | true =>
      have H2 := Lib.hid (show r = Dat.alike x y by rw [H1.out, hx]; rfl)
      clear hx
      rintro e' w2 ⟨rfl, hb2⟩
      have g : ∀ b i, b < w1.heap.size → w2.cell? ⟨b, i, none⟩ = w1.cell? ⟨b, i, none⟩ := fun b i h => hb2.cell (p := ⟨b, i, none⟩) h
      have q0' := (g _ 0 z0).trans q0
      have q1' := (g _ 1 z0).trans q1
      have q2' := (g _ 2 z0).trans q2
      have q3' := (g _ 3 z0).trans q3
      have q4' := (g _ 4 z0).trans q4
      have p0' := (g _ 0 z1).trans p0
      have p1' := (g _ 1 z1).trans p1
      have p2' := (g _ 2 z1).trans p2
      have p3' := (g _ 3 z1).trans p3
      have p4' := (g _ 4 z1).trans p4
      have HB2 := Lib.hid (Below.next HB.out hb2)
      clear hb2 g
      go_wp2_with fail
      refine (C3.out _ HB2.out).mono ?_
      rintro e' w3 ⟨rfl, hb3⟩
      go_wp2
      go_ret
      exact ⟨ret_bool H2.out.symm, Below.next HB2.out hb3⟩
end Go.Proofs.YtnpiekniignfcaaGreatDoor

namespace Go.Proofs.YtnpiekniignfcaaGreatDoor
open Go.RowKit

/-- A call that hands back a list of data of its own, and whether it is one. -/
def ItemsPost (r : Option (List Dat)) (w : World) (e : Ending) (w' : World) : Prop :=
  ∃ v l, e = .returned (.tuple #[v, .bool r.isSome]) ∧ l = r.getD [] ∧ RepS w' w'.heap.size l v ∧ Below w.heap.size w w'

theorem set5_grown (W : World) (H : Nat) (d0 d1 d2 d3 d4 : Value) : W.grownBy (set5 W H d0 d1 d2 d3 d4) (some H) :=
  ⟨(set5_below W H H d0 d1 d2 d3 d4 (Nat.le_refl _)).os, (set5_below W H H d0 d1 d2 d3 d4 (Nat.le_refl _)).tape, (set5_below W H H d0 d1 d2 d3 d4 (Nat.le_refl _)).output, (set5_below W H H d0 d1 d2 d3 d4 (Nat.le_refl _)).size, fun k _ hk => set5_heap _ _ _ _ _ _ _ (by simpa using hk)⟩

/-- A right Pair at a depth. -/
theorem right_pair_at {n d : Int} {s : ByteArray} {l : List Dat} {deep : Nat} (h : Dat.right (.mk 6 n d s l) deep = true) : deep ≤ 200 ∧ ∃ a c, l = [a, c] ∧ n = 0 ∧ d = 0 ∧ s = ⟨#[]⟩ ∧ Dat.right a (deep + 1) = true ∧ Dat.right c (deep + 1) = true := by
  simp [Dat.right, Dat.head] at h
  obtain ⟨hdp, ⟨hd, hn, hs, hl⟩, hr⟩ := h
  refine ⟨hdp, ?_⟩
  match l, hl with
  | [a, c], _ =>
    rw [Dat.rightL_iff] at hr
    exact ⟨a, c, rfl, hn, hd, ByteArray.ext hs, hr a (by simp), hr c (by simp)⟩

theorem items_pair (n d : Int) (s : ByteArray) (a c : Dat) : Dat.items (.mk 6 n d s [a, c]) = (Dat.items c).map (a :: ·) := by rw [Dat.items, if_pos rfl]
theorem items_other (k n d : Int) (s : ByteArray) (l : List Dat) (h : ¬ k = 6) (h2 : k = 4 → l = []) : Dat.items (.mk k n d s l) = if k = 4 then some [] else none := by
  by_cases h4 : k = 4
  · rw [h2 h4, Dat.items]; intro a b he; cases he
  · match l with
    | [a, b] => rw [Dat.items, if_neg h, if_neg h4]
    | [] => rw [Dat.items]; intro a b he; cases he
    | [a] => rw [Dat.items]; intro a b he; cases he
    | _ :: _ :: _ :: _ => rw [Dat.items]; intro a b he; cases he

/-- A Null has no parts. -/
theorem right_null {n d : Int} {s : ByteArray} {l : List Dat} {deep : Nat} (h : Dat.right (.mk 4 n d s l) deep = true) : l = [] := by
  simp [Dat.right, Dat.head] at h
  exact h.2.1.2.2.2

/-- What the loop of Items keeps. -/
def ItemsI (H : Nat) (w : World) (x : Dat) (g : Nat) (t : Value) (wr : World) : Prop :=
  ∃ (k n d : Int) (s : ByteArray) (l : List Dat) (o : Option Addr) (len cap : Nat) (done : List Dat) (xs : List Value), Box5 wr H 26 (.int .i64 k) (.int .i64 n) (.int .i64 d) (.string s) (.slice o len cap) ∧ RepD wr w.heap.size (.mk k n d s l) (.agg #[.int .i64 k, .int .i64 n, .int .i64 d, .string s, .slice o len cap]) ∧
    Dat.right (.mk k n d s l) done.length = true ∧ Dat.all (.mk k n d s l) ≤ g ∧ wr.ownsRow (H + 1) 26 5 t done.length xs ∧ CellsD wr w.heap.size done xs ∧ Dat.items x = (Dat.items (.mk k n d s l)).map (done ++ ·) ∧ Below w.heap.size w wr

set_option maxHeartbeats 4000000 in
set_option maxRecDepth 100000 in
theorem items_any (x : Dat) (v : Value) (B : Nat) (w : World) (hv : RepD w B x v) (hB : B ≤ w.heap.size) :
    Calls Tryz.prog 53 #[v] w (ItemsPost (if Dat.right x 0 then Dat.items x else none) w) := by
  obtain ⟨k, n, d, s, o, len, cap, rfl⟩ := agg_of hv
  have HV := Lib.hid (hv.wider hB)
  have HK := Lib.hid (fun X => (Below.refl w.heap.size w).alloc (Nat.le_refl _) X)
  have C1 := Lib.hid (fun W (hb : Below w.heap.size w W) => dright_any x _ w.heap.size W (HV.out.kept hb) hb.size)
  clear hv
  cases hr : Dat.right x 0 with
  | false =>
    rw [hr] at C1
    simp only [Bool.false_eq_true, if_false]
    clear hr
    go_enter Tryz.func53, Tryz.ntmps53
    go_wp2_with fail
    refine (C1.out _ (HK.out _)).mono ?_
    rintro e' w1 ⟨rfl, hb1⟩
    go_wp2
    go_ret2
    exact ⟨_, [], rfl, rfl, ⟨none, 0, 0, rfl, rfl, by omega, by omega, rfl, rfl⟩, one_below hb1⟩
  | true =>
    rw [hr] at C1
    have HR := Lib.hid hr
    simp only [if_true]
    clear hr
    go_enter Tryz.func53, Tryz.ntmps53
    go_wp2_with fail
    refine (C1.out _ (HK.out _)).mono ?_
    rintro e' w1 ⟨rfl, hb1⟩
    have hz := one_size hb1
    have z0 : w.heap.size < w1.heap.size := by omega
    have hbox : Box5 w1 w.heap.size 26 (.int .i64 k) (.int .i64 n) (.int .i64 d) (.string s) (.slice o len cap) := (hb1.block _ (by simp)).trans (Box5.new w _ _ _ _ _ _)
    have hI : ItemsI w.heap.size w x (Dat.all x) (.slice none 0 0) w1 := by
      obtain ⟨k', n', d', s', l'⟩ := x
      obtain ⟨sl, hv, _⟩ := HV.out.open
      simp only [Value.agg.injEq, Array.mk.injEq, List.cons.injEq, and_true, Value.int.injEq, true_and, Value.string.injEq] at hv
      obtain ⟨rfl, rfl, rfl, rfl, _⟩ := hv
      exact ⟨k, n, d, s, l', o, len, cap, [], [], hbox, HV.out.kept (one_below hb1), HR.out, Nat.le_refl _, World.ownsRow_nil _ _ _ _, rfl, by simp, one_below hb1⟩
    have HI := Lib.hid hI
    clear hb1 hbox hI
    go_wp2_with fail
    go_loopg [4] (Dat.all x) (fun g t wr => ItemsI w.heap.size w x g t wr)
    case atStart => exact HI.out
    case round =>
      obtain ⟨k1, n1, d1, s1, l1, o1, len1, cap1, done, xs, hbox, hrep, hri, hle, hown, hcs, hit, hb⟩ := hrel
      obtain ⟨q0, q1, q2, q3, q4⟩ := hbox.cells
      obtain ⟨z0, z1, z2, z3, z4⟩ := hbox.free
      have hlt1 := hbox.lt
      have hsz := hb.size
      have HX := Lib.hid hbox
      have HRP := Lib.hid hrep
      have HRI := Lib.hid hri
      have HO := Lib.hid hown
      have HC := Lib.hid hcs
      have HT := Lib.hid hit
      have HB := Lib.hid hb
      clear hbox hrep hri hown hcs hit hb
      by_cases k6 : k1 = 6
      · subst k6
        obtain ⟨hdp, a', c', rfl, rfl, rfl, rfl, ha', hc'⟩ := right_pair_at HRI.out
        have HC' := Lib.hid hc'
        clear ha' hc'
        have hall : Dat.all (.mk 6 0 0 ⟨#[]⟩ [a', c']) = 1 + (Dat.all a' + (Dat.all c' + 0)) := rfl
        obtain ⟨sl, hv, _, _, _, _, hs⟩ := HRP.out.open
        simp only [Value.agg.injEq, Array.mk.injEq, List.cons.injEq, and_true, true_and] at hv
        obtain rfl := hv
        have hl2 : len1 = 2 := by obtain ⟨_, _, _, he, h2, _⟩ := hs; simp only [Value.slice.injEq] at he; rw [he.2.1, h2]; rfl
        subst hl2
        have hcp : 2 ≤ cap1 ∧ cap1 ≤ 9223372036854775807 := by obtain ⟨_, _, _, he, h2, h3, h4, _⟩ := hs; simp only [Value.slice.injEq] at he; omega
        have HS := Lib.hid hs
        obtain ⟨bb, off, ak', an', ad', ast', al', ao', alen', acap', ho, hae', e0, e1, e2, e3, e4, er⟩ := part_0 hs (Below.refl _ wr)
        subst ho
        obtain ⟨bb', off', ck, cn, cd, cs, cl, co, clen, ccap, hoo, hce, f0, f1, f2, f3, f4, fr⟩ := part_1 hs (Below.refl _ wr)
        simp only [Option.some.injEq, Addr.mk.injEq, and_true] at hoo
        obtain ⟨rfl, rfl⟩ := hoo
        have ER := Lib.hid er
        have HAE := Lib.hid hae'
        have FR := Lib.hid fr
        have HCE := Lib.hid hce
        clear hs er hae' fr hce
        obtain ⟨i0, hi, hz0, hz1, hz2⟩ := info_parts info_datum
        go_wp2_with (at_builtin; refine wpList_append_own _ rfl _ _ 22 rfl (w.heap.size + 1) 26 i0 (.agg #[.int .i64 0, .int .i64 0, .int .i64 0, .string ⟨#[]⟩, .slice none 0 0]) 5 64 Tryz.underlying22 hi hz0 hz1 hz2 rfl (by decide) u4 done.length xs rfl (HO.out.alloc _) ⟨wr.heap.size, 0, none⟩ 1 1 [.int .i64 ak', .int .i64 an', .int .i64 ad', .string ast', .slice ao' alen' acap'] rfl rfl ?c1 ?c2 ?c3 ?c4 ?c5 ?_)
        case c1 => exact new_five _ _ _ _ _ _ _
        case c2 => intro u hu; simp only [List.mem_cons, List.not_mem_nil, or_false] at hu; rcases hu with rfl | rfl | rfl | rfl | rfl <;> rfl
        case c3 => unfold maxLen; omega
        case c4 => omega
        case c5 => simp; omega
        intro v' w2 hown' hgrow _
        have hrow : ∀ g, u4.ownBlock = some g → w.heap.size + 1 ≤ g := fun g hg => (HO.out.lt g hg).1
        have hb2 : Below w.heap.size wr w2 := ((Below.refl w.heap.size wr).alloc hsz _).grown hgrow (by simp; omega) (fun g hg => by have := hrow g hg; omega)
        have hbox2 : Box5 w2 w.heap.size 26 (.int .i64 6) (.int .i64 0) (.int .i64 0) (.string ⟨#[]⟩) (.slice (some ⟨bb, off, none⟩) 2 cap1) :=
          (hgrow.block _ (by simp; omega) (fun e => by have := hrow _ e.symm; omega)).trans (HX.out.alloc _)
        obtain ⟨r0, r1, r2, r3, r4⟩ := hbox2.cells
        obtain ⟨y0, y1, y2, y3, y4⟩ := hbox2.free
        have hg : ∀ o, w2.cell? ⟨bb, o, none⟩ = wr.cell? ⟨bb, o, none⟩ := fun o => hb2.cell (p := ⟨bb, o, none⟩) (by
          obtain ⟨_, _, _, he, _, _, _, h8⟩ := HS.out
          simp only [Value.slice.injEq] at he
          rw [← he.1] at h8
          exact (h8.1 (by simp)).2)
        have g0 := (hg _).trans f0
        have g1 := (hg _).trans f1
        have g2 := (hg _).trans f2
        have g3 := (hg _).trans f3
        have g4 := (hg _).trans f4
        have HX2 := Lib.hid hbox2
        have HB2 := Lib.hid hb2
        have HO2 := Lib.hid hown'
        have hs2 := hb2.size
        clear hgrow hrow hb2 hbox2 hg e0 e1 e2 e3 e4 f0 f1 f2 f3 f4 hown' q0 q1 q2 q3 q4
        go_wp2_with fail
        go_roundg (Dat.all c')
        case measure => omega
        case rel =>
          refine ⟨ck, cn, cd, cs, cl, co, clen, ccap, done ++ [a'], xs ++ [.int .i64 ak', .int .i64 an', .int .i64 ad', .string ast', .slice ao' alen' acap'], HX2.out.set _ _ _ _ _, ?_, ?_, ?_, ?_, ?_, ?_, ?_⟩
          · exact (FR.out.kept HB2.out).kept (set5_below _ _ _ _ _ _ _ _ (Nat.le_refl _))
          · rw [← HCE.out]; simpa using HC'.out
          · rw [← HCE.out]; exact Nat.le_refl _
          · have hne : v'.ownBlock = none ∨ v'.ownBlock ≠ some w.heap.size := by
              cases hv : v'.ownBlock with
              | none => exact .inl rfl
              | some g => right; intro e; have := (HO2.out.lt g hv).1; simp at e; omega
            have := HO2.out.kept (set5_grown w2 w.heap.size (.int .i64 ck) (.int .i64 cn) (.int .i64 cd) (.string cs) (.slice co clen ccap)) hne
            simpa using this
          · refine CellsD.snoc ?_ (HC.out.mono fun y v h => (h.kept HB2.out).kept (set5_below _ _ _ _ _ _ _ _ (Nat.le_refl _)))
            rw [HAE.out]
            exact (ER.out.kept HB2.out).kept (set5_below _ _ _ _ _ _ _ _ (Nat.le_refl _))
          · rw [HT.out, items_pair, ← HCE.out, Option.map_map]
            congr 1
            funext z
            simp
          · exact (HB.out.trans HB2.out).trans (set5_below _ _ _ _ _ _ _ _ (Nat.le_refl _))
      by_cases k4 : k1 = 4
      · subst k4
        have hl0 := right_null HRI.out
        have HN := Lib.hid (show x.items = some done by rw [HT.out, items_other 4 _ _ _ _ (by omega) (fun _ => hl0)]; simp)
        clear hl0
        go_wp2_with fail
        go_ret2
        refine ⟨u4, done, by rw [HN.out]; rfl, by rw [HN.out]; rfl, repS_of_row HO.out HC.out hsz, HB.out⟩
      · have k6' : (k1 == 6) = false := by simpa using k6
        have k4' : (k1 != 4) = true := by simpa using k4
        have HN := Lib.hid (show x.items = none by rw [HT.out, items_other k1 _ _ _ _ k6 (fun h => absurd h k4), if_neg k4]; rfl)
        go_wp2_with fail
        go_ret2
        exact ⟨_, [], by rw [HN.out]; rfl, by rw [HN.out]; rfl, ⟨none, 0, 0, rfl, rfl, by omega, by omega, rfl, rfl⟩, HB.out⟩
end Go.Proofs.YtnpiekniignfcaaGreatDoor

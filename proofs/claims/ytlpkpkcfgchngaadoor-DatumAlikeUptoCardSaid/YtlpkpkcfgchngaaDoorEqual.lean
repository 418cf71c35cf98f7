/-
  The contracts of slices.EqualFunc, datum.equal, Same.
-/
import Derived.Test.YtlpkpkcfgchngaaDoorRight2
namespace Go.Proofs.YtlpkpkcfgchngaaDoor
open Go.RowKit

/-- Two lists, part by part. -/
def all2 (q : Dat → Dat → Bool) : List Dat → List Dat → Bool
  | [], [] => true
  | x :: l, y :: m => q x y && all2 q l m
  | _, _ => false

theorem all2_len {q : Dat → Dat → Bool} : ∀ {l m : List Dat}, all2 q l m = true → l.length = m.length
  | [], [], _ => rfl
  | x :: l, y :: m, h => by
    rw [all2, Bool.and_eq_true] at h
    simp [all2_len h.2]
  | [], _ :: _, h => by cases h
  | _ :: _, [], h => by cases h

theorem all2_false {q : Dat → Dat → Bool} : ∀ {l m : List Dat} {i : Nat} {x y : Dat}, l[i]? = some x → m[i]? = some y → q x y = false → all2 q l m = false
  | [], _, i, x, y, h, _, _ => by simp at h
  | _ :: _, [], i, x, y, _, h, _ => by simp at h
  | a :: l, b :: m, 0, x, y, h, h', hq => by
    simp only [List.getElem?_cons_zero, Option.some.injEq] at h h'
    subst h h'
    simp [all2, hq]
  | a :: l, b :: m, i + 1, x, y, h, h', hq => by
    rw [all2, all2_false (l := l) (m := m) (i := i) (by simpa using h) (by simpa using h') hq, Bool.and_false]

theorem all2_all {q : Dat → Dat → Bool} : ∀ {l m : List Dat}, l.length = m.length → (∀ (i : Nat) (x y : Dat), l[i]? = some x → m[i]? = some y → q x y = true) → all2 q l m = true
  | [], [], _, _ => rfl
  | x :: l, y :: m, h, H => by
    rw [all2, H 0 x y rfl rfl, all2_all (by simpa using h) (fun i a b ha hb => H (i + 1) a b (by simpa using ha) (by simpa using hb))]; rfl
  | [], _ :: _, h, _ => by simp at h
  | _ :: _, [], h, _ => by simp at h

theorem alikeL_all2 : ∀ l m : List Dat, Dat.alikeL l m = all2 Dat.alike l m
  | [], [] => rfl
  | x :: l, y :: m => by rw [Dat.alikeL, all2, alikeL_all2 l m]
  | [], _ :: _ => rfl
  | _ :: _, [] => rfl

set_option maxHeartbeats 1000000 in
set_option maxRecDepth 100000 in
theorem equalFunc_any (F : FuncId) (caps : Array Value) (q : Dat → Dat → Bool) (r : Bool) (l m : List Dat) (sl sm : Value) (B : Nat) (w : World) (hl : RepS w B l sl) (hm : RepS w B m sm) (hB : B ≤ w.heap.size)
    (hF : ∀ (args : Array Value) (w : World), (callFunc F args).run Tryd.prog w = .ok (.enter F args) w)
    (H : ∀ x ∈ l, ∀ y ∈ m, ∀ v u w', RepD w' B x v → RepD w' B y u → Below w.heap.size w w' → Calls Tryd.prog F (#[v, u] ++ caps) w' fun e w'' => e = .returned (.bool (q x y)) ∧ Below w'.heap.size w' w'') (hr : all2 q l m = r) :
    Calls Tryd.prog 33 #[sl, sm, .func (.func F) #[] caps] w fun e w' => e = .returned (.bool r) ∧ Below w.heap.size w w' := by
  obtain ⟨o, len, cap, rfl, hl1, hcap, hmax, hv⟩ := hl
  obtain ⟨o2, len2, cap2, rfl, hm1, hcap2, hmax2, hv2⟩ := hm
  have HR := Lib.hid hr
  have HV := Lib.hid hv
  have HV2 := Lib.hid hv2
  have HL := Lib.hid hl1
  have HM := Lib.hid hm1
  have HH := Lib.hid H
  clear hr hv hv2 hl1 hm1 H
  by_cases hne : len = len2
  · subst hne
    have hnn : ((len : Int) != (len : Int)) = false := by simp
    go_enter Tryd.func33, Tryd.ntmps33
    go_wp2
    go_loopw [17] (fun i wr => ∃ (j : Nat), i = .int .i64 j ∧ j ≤ len ∧ Hid (∀ (i : Nat) (x y : Dat), i < j → l[i]? = some x → m[i]? = some y → q x y = true) ∧ Below w.heap.size w wr) (fun i _ => len - (intOf i).toNat)
    case atStart => exact ⟨0, rfl, by omega, Lib.hid (fun i x y h => absurd h (Nat.not_lt_zero _)), Below.refl _ _⟩
    case round =>
      obtain ⟨j, rfl, hj, HA, hb⟩ := hrel
      by_cases hjl : j < len
      · obtain ⟨x, hx⟩ : ∃ x, l[j]? = some x := ⟨_, List.getElem?_eq_getElem (by rw [← HL.out]; exact hjl)⟩
        obtain ⟨y, hy⟩ : ∃ y, m[j]? = some y := ⟨_, List.getElem?_eq_getElem (by rw [← HM.out]; exact hjl)⟩
        obtain ⟨b, off, k', n', d', s', l', o', len', cap', ho, hxe, e0, e1, e2, e3, e4, er⟩ := part_at2 HV.out (hb.mono hB) hx
        obtain ⟨b2, off2, k2, n2, d2, s2, l2, o2', len2, cap2', ho2, hye, f0, f1, f2, f3, f4, fr⟩ := part_at2 HV2.out (hb.mono hB) hy
        subst ho hxe ho2 hye
        have HX := Lib.hid hx
        have HY := Lib.hid hy
        have ER := Lib.hid er
        have FR := Lib.hid fr
        clear hx hy er fr
        have hs := hb.size
        have hw1 : b < wr.heap.size := cell_lt e0
        have hw2 : b2 < wr.heap.size := cell_lt f0
        have hw1' : b < wr.heap.size + 1 := by omega
        have hw2' : b2 < wr.heap.size + 1 := by omega
        have HK := Lib.hid (fun X Y => ((Below.refl wr.heap.size wr).alloc (Nat.le_refl _) X).alloc (by simp) Y)
        have HC := Lib.hid (fun X Y => HH.out _ (List.mem_of_getElem? HX.out) _ (List.mem_of_getElem? HY.out) _ _ ((wr.alloc X).alloc Y) (ER.out.kept ((HK.out X Y).mono (by omega))) (FR.out.kept ((HK.out X Y).mono (by omega))) (Below.next hb (HK.out X Y)))
        cases hq : q (.mk k' n' d' s' l') (.mk k2 n2 d2 s2 l2) with
        | true =>
          rw [hq] at HC
          have HT := Lib.hid hq
          clear hq
          go_wp2_with (first | ((with_reducible refine (HC.out _ _).mono ?_); rintro e' w1 ⟨rfl, hb1⟩))
          go_roundw
          case rel =>
            refine ⟨j + 1, by go_num, by omega, Lib.hid ?_, (Below.next hb (HK.out _ _)).trans (hb1.mono (by simp; omega))⟩
            intro i x y hi hx hy
            by_cases hij : i < j
            · exact HA.out i x y hij hx hy
            · obtain rfl : i = j := by omega
              have h1 := HX.out.symm.trans hx
              have h2 := HY.out.symm.trans hy
              simp only [Option.some.injEq] at h1 h2
              rw [← h1, ← h2]; exact HT.out
          case measure => simp [intOf]; omega
        | false =>
          rw [hq] at HC
          have HT := Lib.hid (all2_false HX.out HY.out hq)
          clear hq
          go_wp2_with (first | ((with_reducible refine (HC.out _ _).mono ?_); rintro e' w1 ⟨rfl, hb1⟩))
          go_ret
          exact ⟨ret_bool (by rw [← HR.out, HT.out]), (Below.next hb (HK.out _ _)).trans (hb1.mono (by simp; omega))⟩
      · have HT := Lib.hid (all2_all (q := q) (l := l) (m := m) (by rw [← HL.out, ← HM.out]) (fun i x y hx hy => HA.out i x y (by
          have := (List.getElem?_eq_some_iff.1 hx).1; rw [← HL.out] at this; omega) hx hy))
        go_wp2
        go_ret
        exact ⟨ret_bool (by rw [← HR.out, HT.out]), hb⟩
  · have hnn : ((len : Int) != (len2 : Int)) = true := by simp; omega
    have HT := Lib.hid (show all2 q l m = false by
      cases h : all2 q l m with
      | false => rfl
      | true => exact absurd (all2_len h) (by rw [← HL.out, ← HM.out]; exact hne))
    go_enter Tryd.func33, Tryd.ntmps33
    go_wp2
    go_ret
    exact ⟨ret_bool (by rw [← HR.out, HT.out]), Below.self _⟩

/-! ### equal -/
theorem equal_no {k n d k' n' d' : Int} {s s' : ByteArray} {q r : Bool} (h : ((decide (k = k') && (decide (n = n') && (decide (d = d') && decide (s = s')))) && q) = r)
    (hno : ¬ k = k' ∨ ¬ n = n' ∨ ¬ d = d' ∨ ¬ s.toList = s'.toList) : false = r := by
  rw [← h]
  by_cases h1 : k = k' ∧ n = n' ∧ d = d' ∧ s = s'
  · obtain ⟨rfl, rfl, rfl, rfl⟩ := h1
    rcases hno with h | h | h | h <;> exact absurd rfl h
  · symm
    rw [Bool.and_eq_false_iff]
    apply Decidable.byContradiction
    intro h2
    apply h1
    simp only [not_or, Bool.not_eq_false, Bool.and_eq_true, decide_eq_true_eq] at h2
    exact h2.1

theorem equal_yes {k n d k' n' d' : Int} {s s' : ByteArray} {q r : Bool} (h : ((decide (k = k') && (decide (n = n') && (decide (d = d') && decide (s = s')))) && q) = r)
    (h0 : k = k') (h1 : n = n') (h2 : d = d') (h3 : s.toList = s'.toList) : q = r := by
  have e : s = s' := by
    apply ByteArray.ext; apply Array.ext'
    rw [← ByteArray.toList_eq, ← ByteArray.toList_eq]; exact h3
  rw [← h, decide_eq_true h0, decide_eq_true h1, decide_eq_true h2, decide_eq_true e]; rfl

set_option maxHeartbeats 4000000 in
set_option maxRecDepth 100000 in
theorem equal_any : ∀ (x y : Dat) (v u : Value) (B : Nat) (w : World), RepD w B x v → RepD w B y u → B ≤ w.heap.size →
    Calls Tryd.prog 25 #[v, u] w fun e w' => e = .returned (.bool (Dat.alike x y)) ∧ Below w.heap.size w w' := by
  intro x
  induction x using Dat.ind with
  | h k n d s l ih =>
    intro y v u B w hv hu hB
    obtain ⟨k', n', d', s', l'⟩ := y
    obtain ⟨r, hr⟩ : ∃ r, Dat.alike (.mk k n d s l) (.mk k' n' d' s' l') = r := ⟨_, rfl⟩
    rw [hr]
    rw [Dat.alike, alikeL_all2] at hr
    have HR := Lib.hid hr
    obtain ⟨sl, rfl, _, _, _, _, hs⟩ := hv.open
    obtain ⟨sm, rfl, _, _, _, _, hs'⟩ := hu.open
    have HS := Lib.hid hs
    have HS' := Lib.hid hs'
    have IH := Lib.hid ih
    clear ih hv hu hr hs hs'
    have HK := Lib.hid (fun X Y => ((Below.refl w.heap.size w).alloc (Nat.le_refl _) X).alloc (by simp) Y)
    go_enter Tryd.func25, Tryd.ntmps25
    go_wp2_with fail
    · refine (equalFunc_any 25 #[] Dat.alike r l l' sl sm B _ (HS.out.kept ((HK.out _ _).mono hB)) (HS'.out.kept ((HK.out _ _).mono hB)) (by simp; omega) (fun _ _ => by kernel_rfl)
        (fun x hx y _ v u w' hxv hyu hb => IH.out x hx y v u B w' hxv hyu (by have := hb.size; simp at this; omega)) (equal_yes HR.out (by assumption) (by assumption) (by assumption) (by assumption))).mono ?_
      rintro e' w1 ⟨rfl, hb1⟩
      go_wp2
      go_ret
      exact ⟨rfl, (HK.out _ _).trans (hb1.mono (by simp; omega))⟩
    all_goals
      go_ret
      refine ⟨ret_bool (equal_no HR.out ?_), HK.out _ _⟩
      first
      | exact .inr (.inr (.inr ‹_›))
      | exact .inr (.inr (.inl ‹_›))
      | exact .inr (.inl ‹_›)
      | exact .inl ‹_›

set_option maxHeartbeats 4000000 in
theorem same_any (x y : Dat) (v u : Value) (B : Nat) (w : World) (hv : RepD w B x v) (hu : RepD w B y u) (hB : B ≤ w.heap.size) :
    Calls Tryd.prog 14 #[v, u] w fun e w' => e = .returned (.bool (Dat.right x 0 && (Dat.right y 0 && Dat.alike x y))) ∧ Below w.heap.size w w' := by
  obtain ⟨r, hr⟩ : ∃ r, (Dat.right x 0 && (Dat.right y 0 && Dat.alike x y)) = r := ⟨_, rfl⟩
  rw [hr]
  have HR := Lib.hid hr
  obtain ⟨k, n, d, s, o, len, cap, rfl⟩ := agg_of hv
  obtain ⟨k', n', d', s', o', len', cap', rfl⟩ := agg_of hu
  have HV := Lib.hid hv
  have HU := Lib.hid hu
  clear hv hu hr
  have HK := Lib.hid (fun X Y => ((Below.refl w.heap.size w).alloc (Nat.le_refl _) X).alloc (by simp) Y)
  have C1 := Lib.hid (fun W (hb : Below w.heap.size w W) => dright_any x _ B W (HV.out.kept (hb.mono hB)) (Nat.le_trans hB hb.size))
  have C2 := Lib.hid (fun W (hb : Below w.heap.size w W) => dright_any y _ B W (HU.out.kept (hb.mono hB)) (Nat.le_trans hB hb.size))
  have C3 := Lib.hid (fun W (hb : Below w.heap.size w W) => equal_any x y _ _ B W (HV.out.kept (hb.mono hB)) (HU.out.kept (hb.mono hB)) (Nat.le_trans hB hb.size))
  go_enter Tryd.func14, Tryd.ntmps14
  go_wp2_with fail
  refine (C1.out _ (HK.out _ _)).mono ?_
  cases hx : Dat.right x 0 with
  | false =>
    have H1 := Lib.hid (show r = false by rw [← HR.out, hx]; rfl)
    clear hx
    rintro e' w1 ⟨rfl, hb⟩
    go_wp2
    go_ret
    exact ⟨ret_bool H1.out.symm, two_below hb⟩
  | true =>
    have H1 := Lib.hid (show r = (Dat.right y 0 && Dat.alike x y) by rw [← HR.out, hx]; rfl)
    clear hx
    rintro e' w1 ⟨rfl, hb⟩
    have hz := two_size hb
    have z0 : w.heap.size < w1.heap.size := (by omega)
    have z1 : w.heap.size + 1 < w1.heap.size := (by omega)
    obtain ⟨q0, q1, q2, q3, q4⟩ := two_five hb
    obtain ⟨p0, p1, p2, p3, p4⟩ := two_five2 hb
    have HB := Lib.hid (two_below hb)
    clear hb
    go_wp2_with fail
    refine (C2.out _ HB.out).mono ?_
    cases hx : Dat.right y 0 with
    | false =>
      have H2 := Lib.hid (show r = false by rw [H1.out, hx]; rfl)
      clear hx
      rintro e' w2 ⟨rfl, hb2⟩
      go_wp2
      go_ret
      exact ⟨ret_bool H2.out.symm, Below.next HB.out hb2⟩
    | true =>
      have H2 := Lib.hid (show r = Dat.alike x y by rw [H1.out, hx]; rfl)
      clear hx
      rintro e' w2 ⟨rfl, hb2⟩
      have g : ∀ b i, b < w1.heap.size → w2.cell? ⟨b, i, none⟩ = w1.cell? ⟨b, i, none⟩ := fun b i h => hb2.cell (p := ⟨b, i, none⟩) h
      have q0' := (g _ 0 z0).trans q0
      have q1' := (g _ 1 z0).trans q1
      have q2' := (g _ 2 z0).trans q2
      have q3' := (g _ 3 z0).trans q3
      have q4' := (g _ 4 z0).trans q4
      have p0' := (g _ 0 z1).trans p0
      have p1' := (g _ 1 z1).trans p1
      have p2' := (g _ 2 z1).trans p2
      have p3' := (g _ 3 z1).trans p3
      have p4' := (g _ 4 z1).trans p4
      have HB2 := Lib.hid (Below.next HB.out hb2)
      clear hb2 g
      go_wp2_with fail
      refine (C3.out _ HB2.out).mono ?_
      rintro e' w3 ⟨rfl, hb3⟩
      go_wp2
      go_ret
      exact ⟨ret_bool H2.out.symm, Below.next HB2.out hb3⟩
end Go.Proofs.YtlpkpkcfgchngaaDoor

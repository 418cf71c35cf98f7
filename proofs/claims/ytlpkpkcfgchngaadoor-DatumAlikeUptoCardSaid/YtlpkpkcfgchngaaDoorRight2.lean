/-
  The contract of datum.Right: a closure that calls itself through another.
-/
import Derived.Test.YtlpkpkcfgchngaaDoorRight
import Derived.Test.YtlpkpkcfgchngaaDoorSize
namespace Go.Proofs.YtlpkpkcfgchngaaDoor
open Go.RowKit

theorem right_parts (l : List Dat) (deep c pb B : Nat) (sl : Value) (W : World) (r : Bool) (hr : Dat.rightL l (deep + 1) = r) (hv : RepS W B l sl) (hB : B ≤ W.heap.size) (hc : c < W.heap.size) (hp : pb < W.heap.size) (hfn : W.cell? ⟨c, 0, none⟩ = some (.func (.func 16) #[] #[.pointer (some ⟨c, 0, none⟩)])) (hpb : W.cell? ⟨pb, 0, none⟩ = some (.int .i64 deep)) (hdeep : deep ≤ 200)
    (IH : ∀ x ∈ l, ∀ (v : Value) (deep c : Nat) (di : Int) (B : Nat) (w : World), di = deep → RepD w B x v → B ≤ w.heap.size → c < w.heap.size → w.cell? ⟨c, 0, none⟩ = some (.func (.func 16) #[] #[.pointer (some ⟨c, 0, none⟩)]) → deep ≤ 201 →
      Calls Tryd.prog 16 #[v, .int .i64 di, .pointer (some ⟨c, 0, none⟩)] w fun e w' => e = .returned (.bool (Dat.right x deep)) ∧ Below w.heap.size w w') :
    Calls Tryd.prog 18 #[sl, .func (.func 19) #[] #[.pointer (some ⟨c, 0, none⟩), .pointer (some ⟨pb, 0, none⟩)]] W fun e w' => e = .returned (.bool !r) ∧ Below W.heap.size W w' := by
  refine containsFunc_S 19 #[.pointer (some ⟨c, 0, none⟩), .pointer (some ⟨pb, 0, none⟩)] (fun x => !Dat.right x (deep + 1)) (!r) l sl B W hv hB (fun _ _ => by kernel_rfl) ?_ (by rw [← hr, rightL_any, Bool.not_not])
  intro x hx v w' hxv hb
  have hs := hb.size
  refine right11_any x v deep c pb w' (Dat.right x (deep + 1)) ((hb.cell (p := ⟨c, 0, none⟩) hc).trans hfn) ((hb.cell (p := ⟨pb, 0, none⟩) hp).trans hpb) hdeep (by omega) (by omega) (agg_of hxv) ?_
  intro w'' hb2
  have hs2 := hb2.size
  exact IH x hx v (deep + 1) c _ B w'' rfl (hxv.kept (hb2.mono (by omega))) (by omega) (by omega) ((hb2.cell (p := ⟨c, 0, none⟩) (by show c < _; omega)).trans ((hb.cell (p := ⟨c, 0, none⟩) hc).trans hfn)) (by omega)

theorem right_no {deep : Nat} {n n' d d' : Int} {s s' : ByteArray} {len len' : Nat} {b q r : Bool} (h : (decide (deep ≤ 200) && ((b && (decide (n' = n) && (decide (d' = d) && (decide (s' = s) && decide (len' = len))))) && q)) = r)
    (hno : ¬ b = true ∨ 200 < (deep : Int) ∨ ¬ n' = n ∨ ¬ d' = d ∨ ¬ s'.toList = s.toList ∨ ((len' : Int) != (len : Int)) = true) : false = r := by
  rw [← h]
  by_cases h1 : deep ≤ 200 ∧ b = true ∧ n' = n ∧ d' = d ∧ s' = s ∧ len' = len
  · obtain ⟨a, rfl, rfl, rfl, rfl, rfl⟩ := h1
    rcases hno with h | h | h | h | h | h
    · exact absurd rfl h
    · omega
    · exact absurd rfl h
    · exact absurd rfl h
    · exact absurd rfl h
    · simp at h
  · symm
    rw [Bool.and_eq_false_iff]
    apply Decidable.byContradiction
    intro h2
    apply h1
    simp only [not_or, Bool.not_eq_false, Bool.and_eq_true, decide_eq_true_eq] at h2
    obtain ⟨a, ⟨b, c, d, e, f⟩, _⟩ := h2
    exact ⟨a, b, c, d, e, f⟩

theorem right_yes {deep : Nat} {n n' d d' : Int} {s s' : ByteArray} {len len' : Nat} {b q r : Bool} (h : (decide (deep ≤ 200) && ((b && (decide (n' = n) && (decide (d' = d) && (decide (s' = s) && decide (len' = len))))) && q)) = r)
    (h0 : b = true) (h1 : (deep : Int) ≤ 200) (h2 : n' = n) (h3 : d' = d) (h4 : s'.toList = s.toList) (h5 : ((len' : Int) != (len : Int)) = false) : q = r := by
  have e : s' = s := by
    apply ByteArray.ext; apply Array.ext'
    rw [← ByteArray.toList_eq, ← ByteArray.toList_eq]; exact h4
  have e2 : len' = len := by have := h5; simp at this; omega
  rw [← h, decide_eq_true (by omega : deep ≤ 200), h0, decide_eq_true h2, decide_eq_true h3, decide_eq_true e, decide_eq_true e2]; rfl

set_option maxHeartbeats 4000000 in
set_option maxRecDepth 100000 in
theorem right1_any : ∀ (x : Dat) (v : Value) (deep c : Nat) (di : Int) (B : Nat) (w : World), di = deep → RepD w B x v → B ≤ w.heap.size → c < w.heap.size → w.cell? ⟨c, 0, none⟩ = some (.func (.func 16) #[] #[.pointer (some ⟨c, 0, none⟩)]) → deep ≤ 201 →
    Calls Tryd.prog 16 #[v, .int .i64 di, .pointer (some ⟨c, 0, none⟩)] w fun e w' => e = .returned (.bool (Dat.right x deep)) ∧ Below w.heap.size w w' := by
  intro x
  induction x using Dat.ind with
  | h k n d s l ih =>
    intro v deep c di B w hdi hv hB hc hfn hdeep
    subst hdi
    obtain ⟨sl, rfl, bk, bn, bd, bs, o, len, cap, rfl, hlen, hcap, hmax, hc0⟩ := hv.open
    obtain ⟨k', n', d', s', o', len', cap', b, hbare, hhead⟩ := bare_any k n d s o len cap bn bd bs
    obtain ⟨r, hr⟩ : ∃ r, Dat.right (.mk k n d s l) deep = r := ⟨_, rfl⟩
    rw [hr]
    rw [Dat.right, ← hlen, hhead] at hr
    have IH := Lib.hid ih
    have HV := Lib.hid hc0
    have HL := Lib.hid hlen
    have HB := Lib.hid hbare
    have HR := Lib.hid hr
    clear ih hv hc0 hlen hbare hhead hr
    have hcn : ¬ c = w.heap.size := by omega
    go_enter Tryd.func16, Tryd.ntmps16
    go_wp2_with (first | (go_at_call 17; refine (HB.out _).mono ?_; rintro e' w1 ⟨rfl, hb⟩; have hz := two_size hb; have z0 : w.heap.size < w1.heap.size := (by omega); have z1 : w.heap.size + 1 < w1.heap.size := (by omega); have z2 : c < w1.heap.size := (by omega); obtain ⟨q0, q1, q2, q3, q4⟩ := two_five hb; have q5 := two_one2 hb; have q6 := ((two_below hb).cell (p := ⟨c, 0, none⟩) hc).trans hfn; have HB1 := Lib.hid hb; clear hb))
    all_goals try
      (go_ret
       refine ⟨ret_bool (right_no HR.out ?_), (two_below HB1.out).alloc (by omega) _⟩
       first
       | exact .inl ‹_›
       | exact .inr (.inr (.inr (.inr (.inl ‹_›))))
       | exact .inr (.inr (.inr (.inl ‹_›)))
       | exact .inr (.inr (.inl ‹_›))
       | exact .inr (.inl ‹_›)
       | (rcases ‹200 < (deep : Int) ∨ _› with h | h
          · exact .inr (.inl h)
          · exact .inr (.inr (.inr (.inr (.inr h))))))
    have HQ := Lib.hid (right_yes HR.out (by assumption) (by assumption) (by assumption) (by assumption) (by assumption) (‹_ ∧ ((len' : Int) != (len : Int)) = false›).2)
    have hd0 : deep ≤ 200 := by have := ‹(deep : Int) ≤ 200›; omega
    have HS : RepS w B l (.slice o len cap) := ⟨o, len, cap, rfl, HL.out, hcap, hmax, HV.out⟩
    have HS1 := Lib.hid HS
    clear HS
    have HK := Lib.hid (two_below HB1.out)
    refine (right_parts l deep c (w.heap.size + 1) B _ _ r HQ.out (HS1.out.kept ((HK.out.alloc (by omega) _).mono hB)) ?_ ?_ ?_ ?_ ?_ hd0 IH.out).mono ?_
    · simp; omega
    · simp; omega
    · simp; omega
    · rw [World.cell?_alloc_past _ _ _ z2]; exact q6
    · rw [World.cell?_alloc_past _ _ _ z1]; exact q5
    rintro e2 w2 ⟨rfl, hb2⟩
    go_wp2
    go_ret
    exact ⟨by simp, (HK.out.alloc (by omega) _).trans (hb2.mono (by simp; omega))⟩

theorem dright_any (x : Dat) (v : Value) (B : Nat) (w : World) (hv : RepD w B x v) (hB : B ≤ w.heap.size) :
    Calls Tryd.prog 9 #[v] w fun e w' => e = .returned (.bool (Dat.right x 0)) ∧ Below w.heap.size w w' := by
  obtain ⟨k, n, d, s, l⟩ := x
  obtain ⟨sl, rfl, _, _, _, _, o, len, cap, rfl, hx⟩ := hv.open
  clear hx
  have HV := Lib.hid hv
  clear hv
  have HW := Lib.hid (fun X Y => ((Below.refl w.heap.size w).alloc (Nat.le_refl _) X).alloc (by simp) Y)
  obtain ⟨y, hy⟩ : ∃ y, Dat.right (.mk k n d s l) 0 = y := ⟨_, rfl⟩
  rw [hy]
  have HY := Lib.hid hy
  clear hy
  go_enter Tryd.func9, Tryd.ntmps9
  go_wp2_with fail
  refine (right1_any (.mk k n d s l) _ 0 (w.heap.size + 1) 0 B _ rfl (HV.out.kept ((HW.out _ _).mono hB)) ?_ ?_ (box_cell2 _ _ _ _ 0 rfl) (by omega)).mono ?_
  · simp; omega
  · simp
  rw [HY.out]
  rintro e' w1 ⟨rfl, hb1⟩
  go_wp2
  go_ret
  exact ⟨rfl, (HW.out _ _).trans (hb1.mono (by simp; omega))⟩
end Go.Proofs.YtlpkpkcfgchngaaDoor

/-
  The walk of the law NumBack: it returns true.
-/
import Derived.Test.YtblojcokpdmgnaaDoorNumLaws4
namespace Go.Proofs.YtblojcokpdmgnaaDoor
open Go.RowKit

theorem right_bd2 {n d : Int} (h : Num.right n d = true) : 1 ≤ d ∧ d ≤ 2147483647 ∧ -2147483647 ≤ n ∧ n ≤ 2147483647 := by
  rw [Num.right_iff] at h; omega

theorem Below.ofA {w w1 : World} {o : Obj} {k : Nat} (h : Below ((w.alloc o).drewN k).heap.size ((w.alloc o).drewN k) w1) : Below w.heap.size w w1 :=
  ((Below.refl w.heap.size w).alloc (Nat.le_refl _) o).trans ((Below.ofN h).mono (by simp))

theorem Env.alloc {w : World} (h : Env w) (o : Obj) : Env (w.alloc o) := h.below ((Below.refl _ _).alloc (Nat.le_refl _) o)

namespace Num
theorem sub_add {n d m e a b : Int} (h1 : right n d = true) (h2 : right m e = true) (h : add n d m e = (a, b, 0)) : sub a b m e = (n, d, 0) := by
  rw [add_eq h1 h2] at h
  obtain ⟨r, q⟩ := ofQ_done h
  rw [sub_eq r h2, q, Rat.add_sub_cancel, ofQ_right h1]
theorem div_mul {n d m e p q : Int} (h1 : right n d = true) (h2 : right m e = true) (hm : m ≠ 0) (h : mul n d m e = (p, q, 0)) : div p q m e = (n, d, 0) := by
  rw [mul_eq h1 h2] at h
  obtain ⟨r, hq⟩ := ofQ_done h
  have hne : Rat.divInt m e ≠ 0 := by
    intro h0
    have := (right_q h2).1
    rw [h0] at this
    exact hm this.symm
  rw [div_eq r h2 hm, hq, Rat.div_def, Rat.mul_assoc, Rat.mul_inv_cancel _ hne, Rat.mul_one, ofQ_right h1]
theorem less_tri {n d m e : Int} (h1 : right n d = true) (h2 : right m e = true) : less n d m e = (!less m e n d && (n != m || d != e)) := by
  have ir := @Rat.lt_irrefl
  rw [less_eq h1 h2, less_eq h2 h1, Bool.eq_iff_iff]
  simp only [decide_eq_true_eq, Bool.and_eq_true, Bool.not_eq_true', decide_eq_false_iff_not, Bool.or_eq_true, bne_iff_ne, ne_eq, Rat.not_lt]
  constructor
  · intro h
    refine ⟨Rat.le_of_lt h, ?_⟩
    apply Decidable.byContradiction
    intro hc
    have : n = m ∧ d = e := by omega
    obtain ⟨rfl, rfl⟩ := this
    exact Rat.lt_irrefl h
  · rintro ⟨hle, hne⟩
    refine Rat.lt_of_le_of_ne hle ?_
    intro heq
    obtain ⟨rfl, rfl⟩ := right_inj h1 h2 heq
    simp at hne
end Num

set_option maxRecDepth 100000 in
set_option maxHeartbeats 4000000 in
theorem numBack_walk (x0 x1 x2 x3 : Int) (b0 : -9223372036854775808 ≤ x0 ∧ x0 ≤ 9223372036854775807) (b1 : -9223372036854775808 ≤ x1 ∧ x1 ≤ 9223372036854775807) (b2 : -9223372036854775808 ≤ x2 ∧ x2 ≤ 9223372036854775807) (b3 : -9223372036854775808 ≤ x3 ∧ x3 ≤ 9223372036854775807) (w : World) (hE : Env w) :
    Calls Tryd.prog 4 #[.agg #[.int .i64 x0, .int .i64 x1, .int .i64 x2, .int .i64 x3]] w fun e' w' => e' = .returned (.bool true) ∧ Below w.heap.size w w' := by
  obtain ⟨n, d, i, hq1⟩ : ∃ n d i, Num.mk x0 x1 = (n, d, i) := ⟨_, _, _, rfl⟩
  obtain ⟨m, e, j, hq2⟩ : ∃ n d i, Num.mk x2 x3 = (n, d, i) := ⟨_, _, _, rfl⟩
  have he1 := Num.mk_end x0 x1
  have he2 := Num.mk_end x2 x3
  rw [hq1] at he1
  rw [hq2] at he2
  simp only at he1 he2
  have HQ1 := Lib.hid hq1
  have HQ2 := Lib.hid hq2
  by_cases hs : ¬ i + j = 0
  · have hs0 : (i + j == 0) = false := by simpa using hs
    have hs1 : (i + j != 0) = true := by simpa using hs
    clear hq1 hq2
    have hib : 0 ≤ i ∧ i ≤ 4 := by omega
    have hjb : 0 ≤ j ∧ j ≤ 4 := by omega
    clear he1 he2
    go_enter Tryd.func4, Tryd.ntmps4
    go_wp2_with (first | (go_at_call 10; refine (awake_any _).mono ?_; rintro e' w' ⟨rfl, nk, rfl⟩) | (go_at_call 15; ((with_reducible refine (make_to x0 x1 n d i HQ1.out (by omega) (by omega) (by omega) (by omega) _).mono ?_); rintro e' w' ⟨rfl, nk, rfl⟩)) | (go_at_call 15; ((with_reducible refine (make_to x2 x3 m e j HQ2.out (by omega) (by omega) (by omega) (by omega) _).mono ?_); rintro e' w' ⟨rfl, nk, rfl⟩)))
    go_ret
    exact ⟨rfl, ⟨rfl, rfl, rfl, by simp, fun k hk => by first | (exact Below.heap_alloc _ _ _ hk)⟩⟩
  obtain ⟨rfl, rfl⟩ : i = 0 ∧ j = 0 := by omega
  obtain ⟨hr1, _⟩ := Num.mk_done hq1
  obtain ⟨hr2, _⟩ := Num.mk_done hq2
  have hb1 := right_bd2 hr1
  have hb2 := right_bd2 hr2
  obtain ⟨a, b, c, ha⟩ : ∃ x y s, Num.add n d m e = (x, y, s) := ⟨_, _, _, rfl⟩
  obtain ⟨p, q, r, hm⟩ : ∃ x y s, Num.mul n d m e = (x, y, s) := ⟨_, _, _, rfl⟩
  obtain ⟨l1, hl1⟩ : ∃ l, Num.less n d m e = l := ⟨_, rfl⟩
  obtain ⟨l2, hl2⟩ : ∃ l, Num.less m e n d = l := ⟨_, rfl⟩
  obtain ⟨T, hT⟩ : ∃ T, Num.text n d = T := ⟨_, rfl⟩
  have hTl : T.length ≤ 9223372036854775806 := by
    have l1 := Lib.itoa_length_le n (by omega) (by omega)
    have l2 := Lib.itoa_length_le d (by omega) (by omega)
    rw [← hT]; unfold Num.text
    rw [if_pos hr1, List.length_append]
    split
    · simp; omega
    · simp; omega
  have hPT := Num.parse_text hr1
  rw [hT] at hPT
  have P1 := fun W => parse_any ⟨T.toArray⟩ (by simpa [ByteArray.size] using hTl) W
  have T1 := fun W => text_any n d (by omega) (by omega) (by omega) (by omega) W
  simp only [hPT] at P1
  rw [hT] at T1
  have hl := Num.less_tri hr1 hr2
  rw [hl1, hl2] at hl
  have HP := Lib.hid P1
  have HT := Lib.hid T1
  have HA := Lib.hid ha
  have HM := Lib.hid hm
  have HL1 := Lib.hid hl1
  have HL2 := Lib.hid hl2
  have R1 := Lib.hid hr1
  have R2 := Lib.hid hr2
  have HLL := Lib.hid hl
  clear P1 T1 ha hm hl1 hl2 hr1 hr2 hl hT hPT hTl he1 he2 hq1 hq2 hs
  have key : (l1 = false ∧ l2 = true) ∨ (l2 = false ∧ l1 = (n != m || d != e)) := by
    have := HLL.out
    cases l2
    · right; exact ⟨rfl, by simpa using this⟩
    · left; exact ⟨by simpa using this, rfl⟩
  clear HLL
  have hab : c = 0 → (1 ≤ b ∧ b ≤ 2147483647 ∧ -2147483647 ≤ a ∧ a ≤ 2147483647) := by
    rintro rfl
    have h := HA.out
    rw [Num.add_eq R1.out R2.out] at h
    exact right_bd2 (Num.ofQ_done h).1
  have hpq : r = 0 → (1 ≤ q ∧ q ≤ 2147483647 ∧ -2147483647 ≤ p ∧ p ≤ 2147483647) := by
    rintro rfl
    have h := HM.out
    rw [Num.mul_eq R1.out R2.out] at h
    exact right_bd2 (Num.ofQ_done h).1
  have KEY := Lib.hid key
  clear key
  by_cases hc : c = 0
  · subst hc
    have hab2 := hab rfl
    have HS := Lib.hid (Num.sub_add R1.out R2.out HA.out)
    clear hab
    by_cases hr : r = 0
    · subst hr
      have hpq2 := hpq rfl
      clear hpq
      by_cases hm0 : m = 0
      · have hm1 : (m != 0) = false := by simpa using hm0
        have HM0 := Lib.hid hm0
        clear hm0
        rcases KEY.out with ⟨rfl, rfl⟩ | ⟨rfl, rfl⟩
        all_goals
          go_enter Tryd.func4, Tryd.ntmps4
          go_wp2_with (first | (go_at_call 10; refine (awake_any _).mono ?_; rintro e' w' ⟨rfl, nk, rfl⟩) | (go_at_call 15; ((with_reducible refine (make_to x0 x1 n d 0 HQ1.out (by omega) (by omega) (by omega) (by omega) _).mono ?_); rintro e' w' ⟨rfl, nk, rfl⟩)) | (go_at_call 15; ((with_reducible refine (make_to x2 x3 m e 0 HQ2.out (by omega) (by omega) (by omega) (by omega) _).mono ?_); rintro e' w' ⟨rfl, nk, rfl⟩)) | (go_at_call 16; ((with_reducible refine (add_to n d m e a b 0 HA.out (by omega) (by omega) (by omega) (by omega) (by omega) (by omega) (by omega) (by omega) _).mono ?_); rintro e' w' ⟨rfl, nk, rfl⟩)) | (go_at_call 18; ((with_reducible refine (mul_to n d m e p q 0 HM.out (by omega) (by omega) (by omega) (by omega) (by omega) (by omega) (by omega) (by omega) _).mono ?_); rintro e' w' ⟨rfl, nk, rfl⟩)) | (go_at_call 17; ((with_reducible refine (sub_to a b m e n d 0 HS.out (by omega) (by omega) (by omega) (by omega) (by omega) (by omega) (by omega) (by omega) _).mono ?_); rintro e' w' ⟨rfl, nk, rfl⟩)) | (go_at_call 13; refine (HT.out _ (Env.drewN (Env.alloc hE _) _)).mono ?_; rintro e' w3 ⟨rfl, hb3⟩) | (go_at_call 11; refine (HP.out _).mono ?_; rintro e' w4 ⟨rfl, hb4⟩) | (go_at_call 20; ((with_reducible refine (less_to n d m e _ HL1.out (by omega) (by omega) (by omega) (by omega) (by omega) (by omega) (by omega) (by omega) _).mono ?_); rintro e' w' ⟨rfl, nk, rfl⟩)) | (go_at_call 20; ((with_reducible refine (less_to m e n d _ HL2.out (by omega) (by omega) (by omega) (by omega) (by omega) (by omega) (by omega) (by omega) _).mono ?_); rintro e' w' ⟨rfl, nk, rfl⟩)))
          all_goals go_ret
          all_goals exact ⟨by first | rfl | exact ret_bool (by simp [*]; done) | exact ret_bool (by simp; omega) | exact ret_bool (by simp_all), Below.drewN (Below.next (Below.ofA hb3) hb4) _⟩
      · have hm1 : (m != 0) = true := by simpa using hm0
        have HD := Lib.hid (Num.div_mul R1.out R2.out hm0 HM.out)
        clear hm0
        rcases KEY.out with ⟨rfl, rfl⟩ | ⟨rfl, rfl⟩
        all_goals
          go_enter Tryd.func4, Tryd.ntmps4
          go_wp2_with (first | (go_at_call 10; refine (awake_any _).mono ?_; rintro e' w' ⟨rfl, nk, rfl⟩) | (go_at_call 15; ((with_reducible refine (make_to x0 x1 n d 0 HQ1.out (by omega) (by omega) (by omega) (by omega) _).mono ?_); rintro e' w' ⟨rfl, nk, rfl⟩)) | (go_at_call 15; ((with_reducible refine (make_to x2 x3 m e 0 HQ2.out (by omega) (by omega) (by omega) (by omega) _).mono ?_); rintro e' w' ⟨rfl, nk, rfl⟩)) | (go_at_call 16; ((with_reducible refine (add_to n d m e a b 0 HA.out (by omega) (by omega) (by omega) (by omega) (by omega) (by omega) (by omega) (by omega) _).mono ?_); rintro e' w' ⟨rfl, nk, rfl⟩)) | (go_at_call 18; ((with_reducible refine (mul_to n d m e p q 0 HM.out (by omega) (by omega) (by omega) (by omega) (by omega) (by omega) (by omega) (by omega) _).mono ?_); rintro e' w' ⟨rfl, nk, rfl⟩)) | (go_at_call 17; ((with_reducible refine (sub_to a b m e n d 0 HS.out (by omega) (by omega) (by omega) (by omega) (by omega) (by omega) (by omega) (by omega) _).mono ?_); rintro e' w' ⟨rfl, nk, rfl⟩)) | (go_at_call 19; ((with_reducible refine (div_to p q m e n d 0 HD.out (by omega) (by omega) (by omega) (by omega) (by omega) (by omega) (by omega) (by omega) _).mono ?_); rintro e' w' ⟨rfl, nk, rfl⟩)) | (go_at_call 13; refine (HT.out _ (Env.drewN (Env.alloc hE _) _)).mono ?_; rintro e' w3 ⟨rfl, hb3⟩) | (go_at_call 11; refine (HP.out _).mono ?_; rintro e' w4 ⟨rfl, hb4⟩) | (go_at_call 20; ((with_reducible refine (less_to n d m e _ HL1.out (by omega) (by omega) (by omega) (by omega) (by omega) (by omega) (by omega) (by omega) _).mono ?_); rintro e' w' ⟨rfl, nk, rfl⟩)) | (go_at_call 20; ((with_reducible refine (less_to m e n d _ HL2.out (by omega) (by omega) (by omega) (by omega) (by omega) (by omega) (by omega) (by omega) _).mono ?_); rintro e' w' ⟨rfl, nk, rfl⟩)))
          all_goals go_ret
          all_goals exact ⟨by first | rfl | exact ret_bool (by simp [*]; done) | exact ret_bool (by simp; omega) | exact ret_bool (by simp_all), Below.drewN (Below.next (Below.ofA hb3) hb4) _⟩
    · have hr1 : (r == 0) = false := by simpa using hr
      clear hr hpq
      rcases KEY.out with ⟨rfl, rfl⟩ | ⟨rfl, rfl⟩
      all_goals
        go_enter Tryd.func4, Tryd.ntmps4
        go_wp2_with (first | (go_at_call 10; refine (awake_any _).mono ?_; rintro e' w' ⟨rfl, nk, rfl⟩) | (go_at_call 15; ((with_reducible refine (make_to x0 x1 n d 0 HQ1.out (by omega) (by omega) (by omega) (by omega) _).mono ?_); rintro e' w' ⟨rfl, nk, rfl⟩)) | (go_at_call 15; ((with_reducible refine (make_to x2 x3 m e 0 HQ2.out (by omega) (by omega) (by omega) (by omega) _).mono ?_); rintro e' w' ⟨rfl, nk, rfl⟩)) | (go_at_call 16; ((with_reducible refine (add_to n d m e a b 0 HA.out (by omega) (by omega) (by omega) (by omega) (by omega) (by omega) (by omega) (by omega) _).mono ?_); rintro e' w' ⟨rfl, nk, rfl⟩)) | (go_at_call 18; ((with_reducible refine (mul_to n d m e p q r HM.out (by omega) (by omega) (by omega) (by omega) (by omega) (by omega) (by omega) (by omega) _).mono ?_); rintro e' w' ⟨rfl, nk, rfl⟩)) | (go_at_call 17; ((with_reducible refine (sub_to a b m e n d 0 HS.out (by omega) (by omega) (by omega) (by omega) (by omega) (by omega) (by omega) (by omega) _).mono ?_); rintro e' w' ⟨rfl, nk, rfl⟩)) | (go_at_call 13; refine (HT.out _ (Env.drewN (Env.alloc hE _) _)).mono ?_; rintro e' w3 ⟨rfl, hb3⟩) | (go_at_call 11; refine (HP.out _).mono ?_; rintro e' w4 ⟨rfl, hb4⟩) | (go_at_call 20; ((with_reducible refine (less_to n d m e _ HL1.out (by omega) (by omega) (by omega) (by omega) (by omega) (by omega) (by omega) (by omega) _).mono ?_); rintro e' w' ⟨rfl, nk, rfl⟩)) | (go_at_call 20; ((with_reducible refine (less_to m e n d _ HL2.out (by omega) (by omega) (by omega) (by omega) (by omega) (by omega) (by omega) (by omega) _).mono ?_); rintro e' w' ⟨rfl, nk, rfl⟩)))
        all_goals go_ret
        all_goals exact ⟨by first | rfl | exact ret_bool (by simp [*]; done) | exact ret_bool (by simp; omega) | exact ret_bool (by simp_all), Below.drewN (Below.next (Below.ofA hb3) hb4) _⟩
  · have hc1 : (c == 0) = false := by simpa using hc
    clear hc hab
    by_cases hr : r = 0
    · subst hr
      have hpq2 := hpq rfl
      clear hpq
      by_cases hm0 : m = 0
      · have hm1 : (m != 0) = false := by simpa using hm0
        have HM0 := Lib.hid hm0
        clear hm0
        rcases KEY.out with ⟨rfl, rfl⟩ | ⟨rfl, rfl⟩
        all_goals
          go_enter Tryd.func4, Tryd.ntmps4
          go_wp2_with (first | (go_at_call 10; refine (awake_any _).mono ?_; rintro e' w' ⟨rfl, nk, rfl⟩) | (go_at_call 15; ((with_reducible refine (make_to x0 x1 n d 0 HQ1.out (by omega) (by omega) (by omega) (by omega) _).mono ?_); rintro e' w' ⟨rfl, nk, rfl⟩)) | (go_at_call 15; ((with_reducible refine (make_to x2 x3 m e 0 HQ2.out (by omega) (by omega) (by omega) (by omega) _).mono ?_); rintro e' w' ⟨rfl, nk, rfl⟩)) | (go_at_call 16; ((with_reducible refine (add_to n d m e a b c HA.out (by omega) (by omega) (by omega) (by omega) (by omega) (by omega) (by omega) (by omega) _).mono ?_); rintro e' w' ⟨rfl, nk, rfl⟩)) | (go_at_call 18; ((with_reducible refine (mul_to n d m e p q 0 HM.out (by omega) (by omega) (by omega) (by omega) (by omega) (by omega) (by omega) (by omega) _).mono ?_); rintro e' w' ⟨rfl, nk, rfl⟩)) | (go_at_call 13; refine (HT.out _ (Env.drewN (Env.alloc hE _) _)).mono ?_; rintro e' w3 ⟨rfl, hb3⟩) | (go_at_call 11; refine (HP.out _).mono ?_; rintro e' w4 ⟨rfl, hb4⟩) | (go_at_call 20; ((with_reducible refine (less_to n d m e _ HL1.out (by omega) (by omega) (by omega) (by omega) (by omega) (by omega) (by omega) (by omega) _).mono ?_); rintro e' w' ⟨rfl, nk, rfl⟩)) | (go_at_call 20; ((with_reducible refine (less_to m e n d _ HL2.out (by omega) (by omega) (by omega) (by omega) (by omega) (by omega) (by omega) (by omega) _).mono ?_); rintro e' w' ⟨rfl, nk, rfl⟩)))
          all_goals go_ret
          all_goals exact ⟨by first | rfl | exact ret_bool (by simp [*]; done) | exact ret_bool (by simp; omega) | exact ret_bool (by simp_all), Below.drewN (Below.next (Below.ofA hb3) hb4) _⟩
      · have hm1 : (m != 0) = true := by simpa using hm0
        have HD := Lib.hid (Num.div_mul R1.out R2.out hm0 HM.out)
        clear hm0
        rcases KEY.out with ⟨rfl, rfl⟩ | ⟨rfl, rfl⟩
        all_goals
          go_enter Tryd.func4, Tryd.ntmps4
          go_wp2_with (first | (go_at_call 10; refine (awake_any _).mono ?_; rintro e' w' ⟨rfl, nk, rfl⟩) | (go_at_call 15; ((with_reducible refine (make_to x0 x1 n d 0 HQ1.out (by omega) (by omega) (by omega) (by omega) _).mono ?_); rintro e' w' ⟨rfl, nk, rfl⟩)) | (go_at_call 15; ((with_reducible refine (make_to x2 x3 m e 0 HQ2.out (by omega) (by omega) (by omega) (by omega) _).mono ?_); rintro e' w' ⟨rfl, nk, rfl⟩)) | (go_at_call 16; ((with_reducible refine (add_to n d m e a b c HA.out (by omega) (by omega) (by omega) (by omega) (by omega) (by omega) (by omega) (by omega) _).mono ?_); rintro e' w' ⟨rfl, nk, rfl⟩)) | (go_at_call 18; ((with_reducible refine (mul_to n d m e p q 0 HM.out (by omega) (by omega) (by omega) (by omega) (by omega) (by omega) (by omega) (by omega) _).mono ?_); rintro e' w' ⟨rfl, nk, rfl⟩)) | (go_at_call 19; ((with_reducible refine (div_to p q m e n d 0 HD.out (by omega) (by omega) (by omega) (by omega) (by omega) (by omega) (by omega) (by omega) _).mono ?_); rintro e' w' ⟨rfl, nk, rfl⟩)) | (go_at_call 13; refine (HT.out _ (Env.drewN (Env.alloc hE _) _)).mono ?_; rintro e' w3 ⟨rfl, hb3⟩) | (go_at_call 11; refine (HP.out _).mono ?_; rintro e' w4 ⟨rfl, hb4⟩) | (go_at_call 20; ((with_reducible refine (less_to n d m e _ HL1.out (by omega) (by omega) (by omega) (by omega) (by omega) (by omega) (by omega) (by omega) _).mono ?_); rintro e' w' ⟨rfl, nk, rfl⟩)) | (go_at_call 20; ((with_reducible refine (less_to m e n d _ HL2.out (by omega) (by omega) (by omega) (by omega) (by omega) (by omega) (by omega) (by omega) _).mono ?_); rintro e' w' ⟨rfl, nk, rfl⟩)))
          all_goals go_ret
          all_goals exact ⟨by first | rfl | exact ret_bool (by simp [*]; done) | exact ret_bool (by simp; omega) | exact ret_bool (by simp_all), Below.drewN (Below.next (Below.ofA hb3) hb4) _⟩
    · have hr1 : (r == 0) = false := by simpa using hr
      clear hr hpq
      rcases KEY.out with ⟨rfl, rfl⟩ | ⟨rfl, rfl⟩
      all_goals
        go_enter Tryd.func4, Tryd.ntmps4
        go_wp2_with (first | (go_at_call 10; refine (awake_any _).mono ?_; rintro e' w' ⟨rfl, nk, rfl⟩) | (go_at_call 15; ((with_reducible refine (make_to x0 x1 n d 0 HQ1.out (by omega) (by omega) (by omega) (by omega) _).mono ?_); rintro e' w' ⟨rfl, nk, rfl⟩)) | (go_at_call 15; ((with_reducible refine (make_to x2 x3 m e 0 HQ2.out (by omega) (by omega) (by omega) (by omega) _).mono ?_); rintro e' w' ⟨rfl, nk, rfl⟩)) | (go_at_call 16; ((with_reducible refine (add_to n d m e a b c HA.out (by omega) (by omega) (by omega) (by omega) (by omega) (by omega) (by omega) (by omega) _).mono ?_); rintro e' w' ⟨rfl, nk, rfl⟩)) | (go_at_call 18; ((with_reducible refine (mul_to n d m e p q r HM.out (by omega) (by omega) (by omega) (by omega) (by omega) (by omega) (by omega) (by omega) _).mono ?_); rintro e' w' ⟨rfl, nk, rfl⟩)) | (go_at_call 13; refine (HT.out _ (Env.drewN (Env.alloc hE _) _)).mono ?_; rintro e' w3 ⟨rfl, hb3⟩) | (go_at_call 11; refine (HP.out _).mono ?_; rintro e' w4 ⟨rfl, hb4⟩) | (go_at_call 20; ((with_reducible refine (less_to n d m e _ HL1.out (by omega) (by omega) (by omega) (by omega) (by omega) (by omega) (by omega) (by omega) _).mono ?_); rintro e' w' ⟨rfl, nk, rfl⟩)) | (go_at_call 20; ((with_reducible refine (less_to m e n d _ HL2.out (by omega) (by omega) (by omega) (by omega) (by omega) (by omega) (by omega) (by omega) _).mono ?_); rintro e' w' ⟨rfl, nk, rfl⟩)))
        all_goals go_ret
        all_goals exact ⟨by first | rfl | exact ret_bool (by simp [*]; done) | exact ret_bool (by simp; omega) | exact ret_bool (by simp_all), Below.drewN (Below.next (Below.ofA hb3) hb4) _⟩

end Go.Proofs.YtblojcokpdmgnaaDoor

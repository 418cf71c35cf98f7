/-
  The walks of the laws NumAdds, NumInverse, NumOrder, NumRing: each returns true.
-/
import Derived.Test.YtapdglmldldnkaaNumTo
namespace Go.Proofs.Ytapdglmldldnkaa
open Go.RowKit

theorem rsub_any' (n d m e : Int) (h0 : -9223372036854775808 ≤ n) (h1 : n ≤ 9223372036854775807) (h2 : -9223372036854775808 ≤ d) (h3 : d ≤ 9223372036854775807) (h4 : -9223372036854775808 ≤ m) (h5 : m ≤ 9223372036854775807) (h6 : -9223372036854775808 ≤ e) (h7 : e ≤ 9223372036854775807) (w : World) :
    Calls Try.prog 19 #[.int .i64 n, .int .i64 d, .int .i64 m, .int .i64 e] w fun e' w' => e' = .returned (.tuple #[.int .i64 (Num.sub n d m e).1, .int .i64 (Num.sub n d m e).2.1, .int .i64 (Num.sub n d m e).2.2]) ∧ ∃ k, w' = w.drewN k := by
  rw [← Num.rsub_eq]
  exact rsub_any n d m e h0 h1 h2 h3 h4 h5 h6 h7 w

theorem rmul_any' (n d m e : Int) (h0 : -9223372036854775808 ≤ n) (h1 : n ≤ 9223372036854775807) (h2 : -9223372036854775808 ≤ d) (h3 : d ≤ 9223372036854775807) (h4 : -9223372036854775808 ≤ m) (h5 : m ≤ 9223372036854775807) (h6 : -9223372036854775808 ≤ e) (h7 : e ≤ 9223372036854775807) (w : World) :
    Calls Try.prog 20 #[.int .i64 n, .int .i64 d, .int .i64 m, .int .i64 e] w fun e' w' => e' = .returned (.tuple #[.int .i64 (Num.mul n d m e).1, .int .i64 (Num.mul n d m e).2.1, .int .i64 (Num.mul n d m e).2.2]) ∧ ∃ k, w' = w.drewN k := by
  rw [← Num.rmul_eq]
  exact rmul_any n d m e h0 h1 h2 h3 h4 h5 h6 h7 w

theorem rdiv_any' (n d m e : Int) (h0 : -9223372036854775808 ≤ n) (h1 : n ≤ 9223372036854775807) (h2 : -9223372036854775808 ≤ d) (h3 : d ≤ 9223372036854775807) (h4 : -9223372036854775808 ≤ m) (h5 : m ≤ 9223372036854775807) (h6 : -9223372036854775808 ≤ e) (h7 : e ≤ 9223372036854775807) (w : World) :
    Calls Try.prog 21 #[.int .i64 n, .int .i64 d, .int .i64 m, .int .i64 e] w fun e' w' => e' = .returned (.tuple #[.int .i64 (Num.div n d m e).1, .int .i64 (Num.div n d m e).2.1, .int .i64 (Num.div n d m e).2.2]) ∧ ∃ k, w' = w.drewN k := by
  rw [← Num.rdiv_eq]
  exact rdiv_any n d m e h0 h1 h2 h3 h4 h5 h6 h7 w

theorem numAdds_walk (n d m e : Int) (h0 : -9223372036854775808 ≤ n) (h1 : n ≤ 9223372036854775807) (h2 : -9223372036854775808 ≤ d) (h3 : d ≤ 9223372036854775807) (h4 : -9223372036854775808 ≤ m) (h5 : m ≤ 9223372036854775807) (h6 : -9223372036854775808 ≤ e) (h7 : e ≤ 9223372036854775807) (w : World) : Calls Try.prog 7 #[.int .i64 n, .int .i64 d, .int .i64 m, .int .i64 e] w fun e' w' => e' = .returned (.bool true) ∧ ∃ k, w' = w.drewN k := by
  go_enter Try.func7, Try.ntmps7
  go_wp2_with (first | (go_at_call 8; refine (awake_any _).mono ?_; rintro e' w' ⟨rfl, nk, rfl⟩) | (go_at_call 13; refine (add_any _ _ _ _ (by omega) (by omega) (by omega) (by omega) (by omega) (by omega) (by omega) (by omega) _).mono ?_; rintro e' w' ⟨rfl, nk, rfl⟩) | (go_at_call 16; refine (sub_any _ _ _ _ (by omega) (by omega) (by omega) (by omega) (by omega) (by omega) (by omega) (by omega) _).mono ?_; rintro e' w' ⟨rfl, nk, rfl⟩) | (go_at_call 14; refine (mul_any _ _ _ _ (by omega) (by omega) (by omega) (by omega) (by omega) (by omega) (by omega) (by omega) _).mono ?_; rintro e' w' ⟨rfl, nk, rfl⟩) | (go_at_call 17; refine (div_any _ _ _ _ (by omega) (by omega) (by omega) (by omega) (by omega) (by omega) (by omega) (by omega) _).mono ?_; rintro e' w' ⟨rfl, nk, rfl⟩) | (go_at_call 15; refine (less_any _ _ _ _ (by omega) (by omega) (by omega) (by omega) (by omega) (by omega) (by omega) (by omega) _).mono ?_; rintro e' w' ⟨rfl, nk, rfl⟩) | (go_at_call 18; refine (radd_any _ _ _ _ (by omega) (by omega) (by omega) (by omega) (by omega) (by omega) (by omega) (by omega) _).mono ?_; rintro e' w' ⟨rfl, nk, rfl⟩) | (go_at_call 19; refine (rsub_any' _ _ _ _ (by omega) (by omega) (by omega) (by omega) (by omega) (by omega) (by omega) (by omega) _).mono ?_; rintro e' w' ⟨rfl, nk, rfl⟩) | (go_at_call 20; refine (rmul_any' _ _ _ _ (by omega) (by omega) (by omega) (by omega) (by omega) (by omega) (by omega) (by omega) _).mono ?_; rintro e' w' ⟨rfl, nk, rfl⟩) | (go_at_call 21; refine (rdiv_any' _ _ _ _ (by omega) (by omega) (by omega) (by omega) (by omega) (by omega) (by omega) (by omega) _).mono ?_; rintro e' w' ⟨rfl, nk, rfl⟩) | (go_at_call 22; refine (rless_any _ _ _ _ (by omega) (by omega) (by omega) (by omega) (by omega) (by omega) (by omega) (by omega) _).mono ?_; rintro e' w' ⟨rfl, nk, rfl⟩))
  go_ret
  exact ⟨rfl, by first | exact ⟨0, rfl⟩ | exact ⟨_, rfl⟩ | (simp only [World.drewN_drewN]; exact ⟨_, rfl⟩)⟩

theorem right_bd {n d : Int} (h : Num.right n d = true) : 1 ≤ d ∧ d ≤ 2147483647 ∧ -2147483647 ≤ n ∧ n ≤ 2147483647 := by
  rw [Num.right_iff] at h; omega

theorem numInverse_walk (a b : Int) (h0 : -9223372036854775808 ≤ a) (h1 : a ≤ 9223372036854775807) (h2 : -9223372036854775808 ≤ b) (h3 : b ≤ 9223372036854775807) (w : World) :
    Calls Try.prog 6 #[.int .i64 a, .int .i64 b] w fun e' w' => e' = .returned (.bool true) ∧ ∃ k, w' = w.drewN k := by
  obtain ⟨n, d, i, hq⟩ : ∃ n d i, Num.mk a b = (n, d, i) := ⟨_, _, _, rfl⟩
  have he := Num.mk_end a b
  rw [hq] at he
  have HQ := Lib.hid hq
  simp only at he
  by_cases hi : i = 0
  · subst hi
    obtain ⟨hr, hdi⟩ := Num.mk_done hq
    have hb := right_bd hr
    have hne := Num.right_ne hr
    clear he hdi hq
    have H1 := Lib.hid (show Num.sub n d n d = (0, 1, 0) by
      rw [Num.sub_eq hr hr, Rat.sub_self]; rfl)
    have H2 := Lib.hid (show Num.mk n d = (n, d, 0) by
      rw [Num.mk_eq hne, Num.ofQ_right hr])
    have H4 := Lib.hid hr
    clear hr hne
    by_cases hn : n = 0
    · subst hn
      have H3 := Lib.hid (show Num.div 0 d 0 d = (0, 0, 4) by
        rw [Num.div, H4.out, Int.mul_zero]; rfl)
      go_enter Try.func6, Try.ntmps6
      go_wp2_with (first | (go_at_call 8; refine (awake_any _).mono ?_; rintro e' w' ⟨rfl, nk, rfl⟩) | (go_at_call 9; ((with_reducible refine (make_to a b 0 d 0 HQ.out (by omega) (by omega) (by omega) (by omega) _).mono ?_); rintro e' w' ⟨rfl, nk, rfl⟩)) | (go_at_call 9; ((with_reducible refine (make_to 0 d 0 d 0 H2.out (by omega) (by omega) (by omega) (by omega) _).mono ?_); rintro e' w' ⟨rfl, nk, rfl⟩)) | (go_at_call 16; ((with_reducible refine (sub_to 0 d 0 d 0 1 0 H1.out (by omega) (by omega) (by omega) (by omega) (by omega) (by omega) (by omega) (by omega) _).mono ?_); rintro e' w' ⟨rfl, nk, rfl⟩)) | (go_at_call 17; ((with_reducible refine (div_to 0 d 0 d 0 0 4 H3.out (by omega) (by omega) (by omega) (by omega) (by omega) (by omega) (by omega) (by omega) _).mono ?_); rintro e' w' ⟨rfl, nk, rfl⟩)) | (go_at_call 11; ((with_reducible refine (right_to 0 d true H4.out (by omega) (by omega) (by omega) (by omega) _).mono ?_); rintro e' w' ⟨rfl, nk, rfl⟩)))
      go_ret
      exact ⟨rfl, by first | exact ⟨0, rfl⟩ | exact ⟨_, rfl⟩ | (simp only [World.drewN_drewN]; exact ⟨_, rfl⟩)⟩
    · have hn0 : (n == 0) = false := by simpa using hn
      have hn1 : (n != 0) = true := by simpa using hn
      have H3 := Lib.hid (show Num.div n d n d = (1, 1, 0) by
        rw [Num.div_eq H4.out H4.out hn, Rat.div_def, Rat.mul_inv_cancel]
        · rfl
        · intro h
          have := (Num.right_q H4.out).1
          rw [h] at this
          exact hn this.symm)
      go_enter Try.func6, Try.ntmps6
      go_wp2_with (first | (go_at_call 8; refine (awake_any _).mono ?_; rintro e' w' ⟨rfl, nk, rfl⟩) | (go_at_call 9; ((with_reducible refine (make_to a b n d 0 HQ.out (by omega) (by omega) (by omega) (by omega) _).mono ?_); rintro e' w' ⟨rfl, nk, rfl⟩)) | (go_at_call 9; ((with_reducible refine (make_to n d n d 0 H2.out (by omega) (by omega) (by omega) (by omega) _).mono ?_); rintro e' w' ⟨rfl, nk, rfl⟩)) | (go_at_call 16; ((with_reducible refine (sub_to n d n d 0 1 0 H1.out (by omega) (by omega) (by omega) (by omega) (by omega) (by omega) (by omega) (by omega) _).mono ?_); rintro e' w' ⟨rfl, nk, rfl⟩)) | (go_at_call 17; ((with_reducible refine (div_to n d n d 1 1 0 H3.out (by omega) (by omega) (by omega) (by omega) (by omega) (by omega) (by omega) (by omega) _).mono ?_); rintro e' w' ⟨rfl, nk, rfl⟩)) | (go_at_call 11; ((with_reducible refine (right_to n d true H4.out (by omega) (by omega) (by omega) (by omega) _).mono ?_); rintro e' w' ⟨rfl, nk, rfl⟩)))
      go_ret
      exact ⟨rfl, by first | exact ⟨0, rfl⟩ | exact ⟨_, rfl⟩ | (simp only [World.drewN_drewN]; exact ⟨_, rfl⟩)⟩
  · have hi0 : (i == 0) = false := by simpa using hi
    obtain ⟨rfl, rfl⟩ : n = 0 ∧ d = 0 := by omega
    clear he hq
    have H4 := Lib.hid (show Num.right 0 0 = false by rfl)
    go_enter Try.func6, Try.ntmps6
    go_wp2_with (first | (go_at_call 8; refine (awake_any _).mono ?_; rintro e' w' ⟨rfl, nk, rfl⟩) | (go_at_call 9; ((with_reducible refine (make_to a b 0 0 i HQ.out (by omega) (by omega) (by omega) (by omega) _).mono ?_); rintro e' w' ⟨rfl, nk, rfl⟩)) | (go_at_call 11; ((with_reducible refine (right_to 0 0 false H4.out (by omega) (by omega) (by omega) (by omega) _).mono ?_); rintro e' w' ⟨rfl, nk, rfl⟩)))
    go_ret
    exact ⟨rfl, by first | exact ⟨0, rfl⟩ | exact ⟨_, rfl⟩ | (simp only [World.drewN_drewN]; exact ⟨_, rfl⟩)⟩

end Go.Proofs.Ytapdglmldldnkaa

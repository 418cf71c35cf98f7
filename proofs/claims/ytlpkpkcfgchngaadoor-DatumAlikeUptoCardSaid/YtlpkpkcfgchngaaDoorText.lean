/-
  The contracts of num.Text, num.natural, num.Parse: each computes what Num (TextLaw) says, and leaves all old memory as it was.
-/
import Derived.Test.YtlpkpkcfgchngaaDoorEnv
namespace Go.Proofs.YtlpkpkcfgchngaaDoor
open Go.RowKit

theorem ret_string {l m : List UInt8} (h : l = m) : Ending.returned (.string ⟨l.toArray⟩) = .returned (.string ⟨m.toArray⟩) := by rw [h]

theorem text_any (n d : Int) (h0 : -9223372036854775808 ≤ n) (h1 : n ≤ 9223372036854775807) (h2 : -9223372036854775808 ≤ d) (h3 : d ≤ 9223372036854775807) (w : World) (hE : Env w) :
    Calls Tryd.prog 31 #[.int .i64 n, .int .i64 d] w fun e w' => e = .returned (.string ⟨(Num.text n d).toArray⟩) ∧ Below w.heap.size w w' := by
  cases hr : Num.right n d
  · have HK := Lib.hid (show Num.text n d = [] by simp [Num.text, hr])
    have HR := Lib.hid hr
    go_enter Tryd.func31, Tryd.ntmps31
    go_wp2_with (first | (go_at_call 26; refine (right_to n d false HR.out (by omega) (by omega) (by omega) (by omega) _).mono ?_; rintro e' w1 ⟨rfl, k, rfl⟩))
    go_ret
    exact ⟨ret_string (l := []) HK.out.symm, Below.selfN _ _⟩
  have HR := Lib.hid hr
  by_cases hd : d = 1
  · subst hd
    have HK := Lib.hid (show Num.text n 1 = Lib.itoa n by simp [Num.text, hr])
    clear hr
    go_enter Tryd.func31, Tryd.ntmps31
    go_wp2_with (first | (go_at_call 26; refine (right_to n 1 true HR.out (by omega) (by omega) (by omega) (by omega) _).mono ?_; rintro e' w1 ⟨rfl, k, rfl⟩) | (go_at_call 40; refine (itoa_any n (by omega) (by omega) _ (Env.drewN hE _)).mono ?_; rintro e' w1 ⟨rfl, hb⟩))
    go_ret
    exact ⟨ret_string HK.out.symm, Below.ofN hb⟩
  · have hd1 : (d == 1) = false := by simpa using hd
    have HK := Lib.hid (show Num.text n d = Lib.itoa n ++ 47 :: Lib.itoa d by simp [Num.text, hr, hd])
    clear hr
    have l1 := Lib.itoa_length_le n (by omega) (by omega)
    have l2 := Lib.itoa_length_le d (by omega) (by omega)
    go_enter Tryd.func31, Tryd.ntmps31
    go_wp2_with (first | (go_at_call 26; refine (right_to n d true HR.out (by omega) (by omega) (by omega) (by omega) _).mono ?_; rintro e' w1 ⟨rfl, k, rfl⟩) | (go_at_call 40; with_reducible refine (itoa_any n (by omega) (by omega) _ (Env.drewN hE _)).mono ?_; rintro e' w1 ⟨rfl, hb⟩) | (go_at_call 40; with_reducible refine (itoa_any d (by omega) (by omega) _ (Env.below (Env.drewN hE _) (by assumption))).mono ?_; rintro e' w2 ⟨rfl, hb2⟩))
    go_ret
    refine ⟨?_, Below.next (Below.ofN hb) hb2⟩
    rw [HK.out]
    show Ending.returned (.string ((⟨(Lib.itoa n).toArray⟩ ++ ⟨[47].toArray⟩) ++ ⟨(Lib.itoa d).toArray⟩)) = _
    rw [str_app, str_app]
    simp

end Go.Proofs.YtlpkpkcfgchngaaDoor

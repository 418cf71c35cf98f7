/-
  The walks of the laws NumTexts, NumBack: each returns true.
-/
import Derived.Test.YtblojcokpdmgnaaDoorRParse2
namespace Go.Proofs.YtblojcokpdmgnaaDoor
open Go.RowKit

set_option maxRecDepth 100000 in
theorem numTexts_walk (n d : Int) (h0 : -9223372036854775808 ≤ n) (h1 : n ≤ 9223372036854775807) (h2 : -9223372036854775808 ≤ d) (h3 : d ≤ 9223372036854775807) (s : ByteArray) (hs : s.size ≤ 140737488355328) (w : World) (hE : Env w) :
    Calls Tryd.prog 3 #[.int .i64 n, .int .i64 d, .string s] w fun e' w' => e' = .returned (.bool true) ∧ Below w.heap.size w w' := by
  have hs2 : s.size ≤ 9223372036854775806 := by omega
  obtain ⟨x, y, z, hp⟩ : ∃ x y z, Num.parse s.data.toList = (x, y, z) := ⟨_, _, _, rfl⟩
  obtain ⟨T, hT⟩ : ∃ T, Num.text n d = T := ⟨_, rfl⟩
  have P1 := fun W => parse_any s hs2 W
  have P2 := fun W => rparse_any s hs W
  have T1 := fun W => text_any n d h0 h1 h2 h3 W
  have T2 := fun W => rtext_any n d h0 h1 h2 h3 W
  rw [hp] at P1 P2
  rw [hT] at T1 T2
  have HP1 := Lib.hid P1
  have HP2 := Lib.hid P2
  have HT1 := Lib.hid T1
  have HT2 := Lib.hid T2
  clear P1 P2 T1 T2 hp hT
  go_enter Tryd.func3, Tryd.ntmps3
  go_wp2_with (first | (go_at_call 10; refine (awake_any _).mono ?_; rintro e' w' ⟨rfl, nk, rfl⟩) | (go_at_call 11; refine (HP1.out _).mono ?_; rintro e' w1 ⟨rfl, hb1⟩) | (go_at_call 12; refine (HP2.out _).mono ?_; rintro e' w2 ⟨rfl, hb2⟩) | (go_at_call 13; refine (HT1.out _ (Env.below (Env.below (Env.drewN hE _) hb1) hb2)).mono ?_; rintro e' w3 ⟨rfl, hb3⟩) | (go_at_call 14; refine (HT2.out _).mono ?_; rintro e' w4 ⟨rfl, hb4⟩))
  go_ret
  exact ⟨rfl, Below.next (Below.next (Below.next (Below.ofN hb1) hb2) hb3) hb4⟩

end Go.Proofs.YtblojcokpdmgnaaDoor

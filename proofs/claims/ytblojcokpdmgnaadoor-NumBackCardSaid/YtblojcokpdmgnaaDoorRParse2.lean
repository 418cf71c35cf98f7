/-
  The contract of corbelref01.Parse.
-/
import Derived.Test.YtblojcokpdmgnaaDoorRParse
namespace Go.Proofs.YtblojcokpdmgnaaDoor
open Go.RowKit

theorem ret_fin {a b : Int} {p q : Bool} {P : Int × Int × Bool} (h : P = (a, b, q)) (h' : p = q) : Ending.returned (.tuple #[.int .i64 a, .int .i64 b, .bool p]) = .returned (.tuple #[.int .i64 P.1, .int .i64 P.2.1, .bool P.2.2]) := by
  rw [h, h']

theorem rpart_b (s : ByteArray) (n : Int) (K : Nat) (h : Num.part s.data.toList = (n, (K : Int))) (hs : s.size ≤ 140737488355328) (w : World) :
    Calls Tryd.prog 35 #[.string s] w fun e w' => e = .returned (.tuple #[.int .i64 n, .int .i64 K]) ∧ w = w' := by
  have := rpart_any s hs w
  simp only [h] at this
  exact this

theorem part_nat (l : List UInt8) : ∃ (n : Int) (K : Nat), Num.part l = (n, (K : Int)) ∧ 0 ≤ n ∧ n < 10000000000 ∧ K ≤ 10 ∧ K ≤ l.length := by
  have h := Num.part_bd l
  refine ⟨(Num.part l).1, (Num.part l).2.toNat, ?_, h.1, h.2.1, by omega, by omega⟩
  rw [Int.toNat_of_nonneg h.2.2.1]

set_option maxHeartbeats 2000000 in
set_option maxRecDepth 100000 in
theorem rparse_neg (s R : ByteArray) (res : Int × Int × Bool) (hs : s.size ≤ 140737488355328) (h0 : 0 < s.size) (h45 : ((s[0].toNat : Int) == 45) = true) (hR : s.extract 1 s.size = R) (hRl : R.size ≤ 140737488355328) (hF : res = Num.parseU true R.data.toList) (w : World) :
    Calls Tryd.prog 12 #[.string s] w fun e w' => e = .returned (.tuple #[.int .i64 res.1, .int .i64 res.2.1, .bool res.2.2]) ∧ Below w.heap.size w w' := by
  have hl : R.data.toList.length = R.size := rfl
  obtain ⟨n, K, hp, n0, n1, k0, k1⟩ := part_nat R.data.toList
  obtain ⟨c1, c2, c3, c4⟩ := Num.parseU_ref true R.data.toList n K hp
  rw [hl] at k1 c2 c3 c4
  have e0 : (K : Int).toNat = K := rfl
  rw [e0] at c3 c4
  have HP := Lib.hid hp
  by_cases a0 : K = 0
  · have hf := Lib.hid (hF.trans (c1 (by omega)))
    clear c1 c2 c3 c4 hF hp e0
    subst a0
    go_enter Tryd.func12, Tryd.ntmps12
    go_wp2_with (first | (go_at_call 35; ((with_reducible refine (rpart_b R n 0 HP.out hRl _).mono ?_); rintro e' w1 ⟨rfl, rfl⟩)))
    go_ret3
    exact ⟨ret_fin hf.out rfl, by first | exact Below.self _ | exact Below.selfN _ _⟩
  have a1 : ((K : Int) == 0) = false := by simpa using a0
  by_cases a2 : K = R.size
  · have c2' := c2 (by omega) (by omega)
    have HC := Lib.hid c2'
    have a3 : ¬ K < R.size := by omega
    have A2 := Lib.hid a2
    clear c1 c2 c3 c4 c2' e0 a2
    obtain ⟨x, y, z, hm⟩ : ∃ x y z, Num.mk (-n) 1 = (x, y, z) := ⟨_, _, _, rfl⟩
    have HM := Lib.hid hm
    have HF := Lib.hid (hF.trans ((HC.out).trans (show Num.fin true n 1 = (x, y, decide (z = 0)) by unfold Num.fin; simp [hm])))
    clear hm hp hF
    go_enter Tryd.func12, Tryd.ntmps12
    go_wp2_with (first | (go_at_call 35; ((with_reducible refine (rpart_b R n K HP.out hRl _).mono ?_); rintro e' w1 ⟨rfl, rfl⟩)) | (go_at_call 36; refine (rmake_to (-n) 1 x y z HM.out (by omega) (by omega) (by omega) (by omega) _).mono ?_; rintro e' w1 ⟨rfl, nk, rfl⟩))
    go_ret3
    exact ⟨ret_fin HF.out (by first | rfl | simp), by first | exact Below.self _ | exact Below.selfN _ _⟩
  have a4 : K < R.size := by omega
  have hg : R.data.toList[K]? = some R[K] := by rw [List.getElem?_eq_getElem (by rw [hl]; exact a4)]; rfl
  cases b : ((R[K].toNat : Int) == 47) with
  | false =>
    have hne : R[K] ≠ 47 := by rintro h; rw [h] at b; exact absurd b (by decide)
    have hf := Lib.hid (hF.trans (c3 (by omega) (by omega) _ hg hne))
    have A2 := Lib.hid a2
    clear c1 c2 c3 c4 hF hp e0 hg hne a2
    go_enter Tryd.func12, Tryd.ntmps12
    go_wp2_with (first | (go_at_call 35; ((with_reducible refine (rpart_b R n K HP.out hRl _).mono ?_); rintro e' w1 ⟨rfl, rfl⟩)))
    go_ret3
    exact ⟨ret_fin hf.out rfl, by first | exact Below.self _ | exact Below.selfN _ _⟩
  | true =>
    have heq : R[K] = 47 := by
      have : (R[K].toNat : Int) = 47 := by simpa using b
      apply UInt8.toNat_inj.1
      show R[K].toNat = 47
      omega
    rw [heq] at hg
    obtain ⟨T, hT⟩ : ∃ T, R.extract (K + 1) R.size = T := ⟨_, rfl⟩
    have hTd : T.data.toList = R.data.toList.drop (K + 1) := by
      rw [← hT, extract_list, ← hl, List.take_length]
    have hTs : T.size = R.size - (K + 1) := by rw [← hT]; simp
    have hTl : T.size ≤ 140737488355328 := by omega
    obtain ⟨d, J, hq, d0, d1, j0, j1⟩ := part_nat T.data.toList
    have HQ := Lib.hid hq
    rw [hTd] at hq
    obtain ⟨g1, g2⟩ := c4 (by omega) (by omega) hg d J hq
    have A2 := Lib.hid a2
    clear c1 c2 c3 c4 e0 hg heq hq hTd j1 a2
    by_cases b0 : J = 0
    · have hf := Lib.hid (hF.trans (g1 (.inl (by omega))))
      clear g1 g2 hF hp
      subst b0
      go_enter Tryd.func12, Tryd.ntmps12
      go_wp2_with (first | (go_at_call 35; ((with_reducible refine (rpart_b R n K HP.out hRl _).mono ?_); rintro e' w1 ⟨rfl, rfl⟩)) | (go_at_call 35; ((with_reducible refine (rpart_b T d 0 HQ.out hTl _).mono ?_); rintro e' w1 ⟨rfl, rfl⟩)))
      go_ret3
      exact ⟨ret_fin hf.out rfl, by first | exact Below.self _ | exact Below.selfN _ _⟩
    have b1 : ((J : Int) == 0) = false := by simpa using b0
    by_cases b2 : K + 1 + J = R.size
    · have g2' := g2 (by omega) (by omega)
      have HC := Lib.hid g2'
      have b3 : ((K : Int) + 1 + J != R.size) = false := by simp; omega
      have B2 := Lib.hid b2
      clear g1 g2 g2' b2
      obtain ⟨x, y, z, hm⟩ : ∃ x y z, Num.mk (-n) d = (x, y, z) := ⟨_, _, _, rfl⟩
      have HM := Lib.hid hm
      have HF := Lib.hid (hF.trans ((HC.out).trans (show Num.fin true n d = (x, y, decide (z = 0)) by unfold Num.fin; simp [hm])))
      clear hm hp hF
      go_enter Tryd.func12, Tryd.ntmps12
      go_wp2_with (first | (go_at_call 35; ((with_reducible refine (rpart_b R n K HP.out hRl _).mono ?_); rintro e' w1 ⟨rfl, rfl⟩)) | (go_at_call 35; ((with_reducible refine (rpart_b T d J HQ.out hTl _).mono ?_); rintro e' w1 ⟨rfl, rfl⟩)) | (go_at_call 36; refine (rmake_to (-n) d x y z HM.out (by omega) (by omega) (by omega) (by omega) _).mono ?_; rintro e' w1 ⟨rfl, nk, rfl⟩))
      go_ret3
      exact ⟨ret_fin HF.out (by first | rfl | simp), by first | exact Below.self _ | exact Below.selfN _ _⟩
    · have hf := Lib.hid (hF.trans (g1 (.inr (by omega))))
      have b3 : ((K : Int) + 1 + J != R.size) = true := by simp; omega
      have B2 := Lib.hid b2
      clear g1 g2 hF hp b2
      go_enter Tryd.func12, Tryd.ntmps12
      go_wp2_with (first | (go_at_call 35; ((with_reducible refine (rpart_b R n K HP.out hRl _).mono ?_); rintro e' w1 ⟨rfl, rfl⟩)) | (go_at_call 35; ((with_reducible refine (rpart_b T d J HQ.out hTl _).mono ?_); rintro e' w1 ⟨rfl, rfl⟩)))
      go_ret3
      exact ⟨ret_fin hf.out rfl, by first | exact Below.self _ | exact Below.selfN _ _⟩

set_option maxHeartbeats 2000000 in
set_option maxRecDepth 100000 in
theorem rparse_pos (s R : ByteArray) (res : Int × Int × Bool) (hs : s.size ≤ 140737488355328) (h0 : 0 < s.size) (h45 : ((s[0].toNat : Int) == 45) = false) (hR : s = R) (hRl : R.size ≤ 140737488355328) (hF : res = Num.parseU false R.data.toList) (w : World) :
    Calls Tryd.prog 12 #[.string s] w fun e w' => e = .returned (.tuple #[.int .i64 res.1, .int .i64 res.2.1, .bool res.2.2]) ∧ Below w.heap.size w w' := by
  subst hR
  have hl : s.data.toList.length = s.size := rfl
  obtain ⟨n, K, hp, n0, n1, k0, k1⟩ := part_nat s.data.toList
  obtain ⟨c1, c2, c3, c4⟩ := Num.parseU_ref false s.data.toList n K hp
  rw [hl] at k1 c2 c3 c4
  have e0 : (K : Int).toNat = K := rfl
  rw [e0] at c3 c4
  have HP := Lib.hid hp
  by_cases a0 : K = 0
  · have hf := Lib.hid (hF.trans (c1 (by omega)))
    clear c1 c2 c3 c4 hF hp e0
    subst a0
    go_enter Tryd.func12, Tryd.ntmps12
    go_wp2_with (first | (go_at_call 35; ((with_reducible refine (rpart_b s n 0 HP.out hRl _).mono ?_); rintro e' w1 ⟨rfl, rfl⟩)))
    go_ret3
    exact ⟨ret_fin hf.out rfl, by first | exact Below.self _ | exact Below.selfN _ _⟩
  have a1 : ((K : Int) == 0) = false := by simpa using a0
  by_cases a2 : K = s.size
  · have c2' := c2 (by omega) (by omega)
    have HC := Lib.hid c2'
    have a3 : ¬ K < s.size := by omega
    have A2 := Lib.hid a2
    clear c1 c2 c3 c4 c2' e0 a2
    obtain ⟨x, y, z, hm⟩ : ∃ x y z, Num.mk n 1 = (x, y, z) := ⟨_, _, _, rfl⟩
    have HM := Lib.hid hm
    have HF := Lib.hid (hF.trans ((HC.out).trans (show Num.fin false n 1 = (x, y, decide (z = 0)) by unfold Num.fin; simp [hm])))
    clear hm hp hF
    go_enter Tryd.func12, Tryd.ntmps12
    go_wp2_with (first | (go_at_call 35; ((with_reducible refine (rpart_b s n K HP.out hRl _).mono ?_); rintro e' w1 ⟨rfl, rfl⟩)) | (go_at_call 36; refine (rmake_to n 1 x y z HM.out (by omega) (by omega) (by omega) (by omega) _).mono ?_; rintro e' w1 ⟨rfl, nk, rfl⟩))
    go_ret3
    exact ⟨ret_fin HF.out (by first | rfl | simp), by first | exact Below.self _ | exact Below.selfN _ _⟩
  have a4 : K < s.size := by omega
  have hg : s.data.toList[K]? = some s[K] := by rw [List.getElem?_eq_getElem (by rw [hl]; exact a4)]; rfl
  cases b : ((s[K].toNat : Int) == 47) with
  | false =>
    have hne : s[K] ≠ 47 := by rintro h; rw [h] at b; exact absurd b (by decide)
    have hf := Lib.hid (hF.trans (c3 (by omega) (by omega) _ hg hne))
    have A2 := Lib.hid a2
    clear c1 c2 c3 c4 hF hp e0 hg hne a2
    go_enter Tryd.func12, Tryd.ntmps12
    go_wp2_with (first | (go_at_call 35; ((with_reducible refine (rpart_b s n K HP.out hRl _).mono ?_); rintro e' w1 ⟨rfl, rfl⟩)))
    go_ret3
    exact ⟨ret_fin hf.out rfl, by first | exact Below.self _ | exact Below.selfN _ _⟩
  | true =>
    have heq : s[K] = 47 := by
      have : (s[K].toNat : Int) = 47 := by simpa using b
      apply UInt8.toNat_inj.1
      show s[K].toNat = 47
      omega
    rw [heq] at hg
    obtain ⟨T, hT⟩ : ∃ T, s.extract (K + 1) s.size = T := ⟨_, rfl⟩
    have hTd : T.data.toList = s.data.toList.drop (K + 1) := by
      rw [← hT, extract_list, ← hl, List.take_length]
    have hTs : T.size = s.size - (K + 1) := by rw [← hT]; simp
    have hTl : T.size ≤ 140737488355328 := by omega
    obtain ⟨d, J, hq, d0, d1, j0, j1⟩ := part_nat T.data.toList
    have HQ := Lib.hid hq
    rw [hTd] at hq
    obtain ⟨g1, g2⟩ := c4 (by omega) (by omega) hg d J hq
    have A2 := Lib.hid a2
    clear c1 c2 c3 c4 e0 hg heq hq hTd j1 a2
    by_cases b0 : J = 0
    · have hf := Lib.hid (hF.trans (g1 (.inl (by omega))))
      clear g1 g2 hF hp
      subst b0
      go_enter Tryd.func12, Tryd.ntmps12
      go_wp2_with (first | (go_at_call 35; ((with_reducible refine (rpart_b s n K HP.out hRl _).mono ?_); rintro e' w1 ⟨rfl, rfl⟩)) | (go_at_call 35; ((with_reducible refine (rpart_b T d 0 HQ.out hTl _).mono ?_); rintro e' w1 ⟨rfl, rfl⟩)))
      go_ret3
      exact ⟨ret_fin hf.out rfl, by first | exact Below.self _ | exact Below.selfN _ _⟩
    have b1 : ((J : Int) == 0) = false := by simpa using b0
    by_cases b2 : K + 1 + J = s.size
    · have g2' := g2 (by omega) (by omega)
      have HC := Lib.hid g2'
      have b3 : ((K : Int) + 1 + J != s.size) = false := by simp; omega
      have B2 := Lib.hid b2
      clear g1 g2 g2' b2
      obtain ⟨x, y, z, hm⟩ : ∃ x y z, Num.mk n d = (x, y, z) := ⟨_, _, _, rfl⟩
      have HM := Lib.hid hm
      have HF := Lib.hid (hF.trans ((HC.out).trans (show Num.fin false n d = (x, y, decide (z = 0)) by unfold Num.fin; simp [hm])))
      clear hm hp hF
      go_enter Tryd.func12, Tryd.ntmps12
      go_wp2_with (first | (go_at_call 35; ((with_reducible refine (rpart_b s n K HP.out hRl _).mono ?_); rintro e' w1 ⟨rfl, rfl⟩)) | (go_at_call 35; ((with_reducible refine (rpart_b T d J HQ.out hTl _).mono ?_); rintro e' w1 ⟨rfl, rfl⟩)) | (go_at_call 36; refine (rmake_to n d x y z HM.out (by omega) (by omega) (by omega) (by omega) _).mono ?_; rintro e' w1 ⟨rfl, nk, rfl⟩))
      go_ret3
      exact ⟨ret_fin HF.out (by first | rfl | simp), by first | exact Below.self _ | exact Below.selfN _ _⟩
    · have hf := Lib.hid (hF.trans (g1 (.inr (by omega))))
      have b3 : ((K : Int) + 1 + J != s.size) = true := by simp; omega
      have B2 := Lib.hid b2
      clear g1 g2 hF hp b2
      go_enter Tryd.func12, Tryd.ntmps12
      go_wp2_with (first | (go_at_call 35; ((with_reducible refine (rpart_b s n K HP.out hRl _).mono ?_); rintro e' w1 ⟨rfl, rfl⟩)) | (go_at_call 35; ((with_reducible refine (rpart_b T d J HQ.out hTl _).mono ?_); rintro e' w1 ⟨rfl, rfl⟩)))
      go_ret3
      exact ⟨ret_fin hf.out rfl, by first | exact Below.self _ | exact Below.selfN _ _⟩

set_option maxHeartbeats 2000000 in
set_option maxRecDepth 100000 in
theorem rparse_empty (s R : ByteArray) (res : Int × Int × Bool) (hs : s.size ≤ 140737488355328) (h0 : s.size = 0) (hR : s = R) (hRl : R.size ≤ 140737488355328) (hF : res = Num.parseU false R.data.toList) (w : World) :
    Calls Tryd.prog 12 #[.string s] w fun e w' => e = .returned (.tuple #[.int .i64 res.1, .int .i64 res.2.1, .bool res.2.2]) ∧ Below w.heap.size w w' := by
  subst hR
  have hl : s.data.toList.length = s.size := rfl
  obtain ⟨n, K, hp, n0, n1, k0, k1⟩ := part_nat s.data.toList
  obtain ⟨c1, c2, c3, c4⟩ := Num.parseU_ref false s.data.toList n K hp
  rw [hl] at k1 c2 c3 c4
  have e0 : (K : Int).toNat = K := rfl
  rw [e0] at c3 c4
  have HP := Lib.hid hp
  by_cases a0 : K = 0
  · have hf := Lib.hid (hF.trans (c1 (by omega)))
    clear c1 c2 c3 c4 hF hp e0
    subst a0
    go_enter Tryd.func12, Tryd.ntmps12
    go_wp2_with (first | (go_at_call 35; ((with_reducible refine (rpart_b s n 0 HP.out hRl _).mono ?_); rintro e' w1 ⟨rfl, rfl⟩)))
    go_ret3
    exact ⟨ret_fin hf.out rfl, by first | exact Below.self _ | exact Below.selfN _ _⟩
  · exfalso; omega

theorem rparse_any (s : ByteArray) (hs : s.size ≤ 140737488355328) (w : World) :
    Calls Tryd.prog 12 #[.string s] w fun e w' => e = .returned (.tuple #[.int .i64 (Num.parse s.data.toList).1, .int .i64 (Num.parse s.data.toList).2.1, .bool (Num.parse s.data.toList).2.2]) ∧ Below w.heap.size w w' := by
  have hl : s.data.toList.length = s.size := rfl
  by_cases h0 : 0 < s.size
  · have hg : s.data.toList[0]? = some s[0] := by rw [List.getElem?_eq_getElem (by rw [hl]; exact h0)]; rfl
    cases hc : s.data.toList with
    | nil => rw [hc] at hg; cases hg
    | cons b r =>
      rw [hc] at hg
      simp only [List.getElem?_cons_zero, Option.some.injEq] at hg
      by_cases hb : b = 45
      · have h45 : ((s[0].toNat : Int) == 45) = true := by rw [← hg, hb]; decide
        have hx : (s.extract 1 s.size).data.toList = r := by
          rw [extract_list, ← hl, List.take_length, hc]; rfl
        refine rparse_neg s _ _ hs h0 h45 rfl (by simp; omega) ?_ w
        rw [hx, hb]; rfl
      · have h45 : ((s[0].toNat : Int) == 45) = false := by
          rw [← hg]
          simp only [beq_eq_false_iff_ne, ne_eq]
          intro h
          apply hb
          apply UInt8.toNat_inj.1
          show b.toNat = 45
          omega
        refine rparse_pos s _ _ hs h0 h45 rfl hs ?_ w
        rw [hc]
        unfold Num.parse
        split
        · rename_i h; simp only [List.cons.injEq] at h; exact absurd h.1 hb
        · rfl
  · refine rparse_empty s _ _ hs (by omega) rfl hs ?_ w
    have : s.data.toList = [] := List.length_eq_zero_iff.1 (by rw [hl]; omega)
    rw [this]; rfl

end Go.Proofs.YtblojcokpdmgnaaDoor

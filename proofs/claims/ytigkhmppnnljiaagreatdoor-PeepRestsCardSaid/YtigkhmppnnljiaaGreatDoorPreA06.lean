/-
  What the proofs lean on: RTexts.
-/
import Derived.Test.YtigkhmppnnljiaaGreatDoorPreA04
set_option maxRecDepth 100000
set_option maxHeartbeats 16000000
namespace Go.Proofs.YtigkhmppnnljiaaGreatDoor
section
open Go.RowKit
namespace Num
def part (l : List UInt8) : Int × Int :=
 if 10 < (l.takeWhile isDigit).length then (0, 0) else (((Lib.decFrom 0 (l.takeWhile isDigit)).getD 0 : Nat), ((l.takeWhile isDigit).length : Nat))
theorem takeWhile_at (l : List UInt8) (k : Nat) (hk : k ≤ l.length) (h : ∀ b ∈ l.take k, isDigit b = true) (hs : ∀ b, l[k]? = some b → isDigit b = false) : l.takeWhile isDigit = l.take k := by
 induction l generalizing k with
 | nil => simp
 | cons b l ih =>
  cases k with
  | zero =>
   have := hs b rfl
   simp [this]
  | succ k =>
   simp only [List.take_succ_cons, List.mem_cons, forall_eq_or_imp] at h
   simp only [List.takeWhile_cons, h.1, if_true, List.take_succ_cons]
   rw [ih k (by simpa using hk) h.2 (fun c hc => hs c (by simpa using hc))]
end Num
theorem ret_part {a b : Int} {p : Int × Int} (h : p = (a, b)) : Ending.returned (.tuple #[.int .i64 a, .int .i64 b]) = .returned (.tuple #[.int .i64 p.1, .int .i64 p.2]) := by
 rw [h]
theorem part_small {s : ByteArray} {k m : Nat} (hT : s.data.toList.takeWhile Num.isDigit = s.data.toList.take k) (hk : k ≤ s.size) (h10 : k ≤ 10) (hm : Lib.decFrom 0 (s.data.toList.take (min k 10)) = some m) :
  Num.part s.data.toList = ((m : Int), (k : Int)) := by
 have hl : (s.data.toList.take k).length = k := by rw [List.length_take]; exact Nat.min_eq_left hk
 have e : min k 10 = k := by omega
 rw [e] at hm
 unfold Num.part
 rw [hT, hl, if_neg (by omega), hm]
 rfl
theorem part_big {s : ByteArray} {k : Nat} (hT : s.data.toList.takeWhile Num.isDigit = s.data.toList.take k) (hk : k ≤ s.size) (h10 : ¬ k ≤ 10) :
  Num.part s.data.toList = (0, 0) := by
 have hl : (s.data.toList.take k).length = k := by rw [List.length_take]; exact Nat.min_eq_left hk
 unfold Num.part
 rw [hT, hl, if_pos (by omega)]
theorem rpart_any (s : ByteArray) (hs : s.size ≤ 140737488355328) (w : World) :
  Calls Tryz.prog 163 #[.string s] w fun e w' => e = .returned (.tuple #[.int .i64 (Num.part s.data.toList).1, .int .i64 (Num.part s.data.toList).2]) ∧ w = w' := by
 have hl : s.data.toList.length = s.size := rfl
 go_enter Tryz.func163, Tryz.ntmps163
 go_wp2
 go_loop [4, 5] (fun x y => ∃ (k m : Nat), x = .int .i64 m ∧ y = .int .i64 k ∧ k ≤ s.size ∧ (∀ b ∈ s.data.toList.take k, Num.isDigit b = true) ∧ Lib.decFrom 0 (s.data.toList.take (min k 10)) = some m) (fun _ y => s.size - (intOf y).toNat)
 case atStart => exact ⟨0, 0, rfl, rfl, by omega, by simp, rfl⟩
 case round =>
  obtain ⟨k, m, rfl, rfl, hk, hd, hm⟩ := hrel
  have hm10 : m < 10000000000 := by
   have := Lib.decFrom_lt _ 0 m hm
   have hp : 10 ^ (s.data.toList.take (min k 10)).length ≤ 10 ^ 10 := Nat.pow_le_pow_right (by omega) (by rw [List.length_take]; omega)
   omega
  have HM := Lib.hid hm
  have HD := Lib.hid hd
  clear hm hd
  by_cases hlt : k < s.size
  ·have hget : s.data.toList[k]? = some s[k] := by
    rw [List.getElem?_eq_getElem (by rw [hl]; exact hlt)]; rfl
   have HG := Lib.hid hget
   clear hget
   have h256 : (s[k].toNat : Int) < 256 := by have := s[k].toNat_lt; omega
   cases hdig : Num.isDigit s[k] with
   | true =>
    have hb := hdig
    simp only [Num.isDigit, Bool.and_eq_true, decide_eq_true_eq] at hb
    obtain ⟨hb1, hb2⟩ := hb
    have hb3 : (48 : Int) ≤ s[k].toNat := by omega
    have hb4 : (s[k].toNat : Int) ≤ 57 := by omega
    have HD2 := Lib.hid (show ∀ b ∈ s.data.toList.take (k + 1), Num.isDigit b = true by
     rw [List.take_add_one, HG.out]
     intro b hb
     rcases List.mem_append.1 hb with hb | hb
     ·exact HD.out b hb
     ·simp at hb; subst hb; exact hdig)
    have hv := Num.digitVal_some hdig
    clear hdig
    by_cases h10 : k < 10
    ·have HM2 := Lib.hid (show Lib.decFrom 0 (s.data.toList.take (min (k + 1) 10)) = some (m * 10 + (s[k].toNat - 48)) by
      have e1 : min (k + 1) 10 = k + 1 := by omega
      have e2 : min k 10 = k := by omega
      have := HM.out
      rw [e2] at this
      rw [e1]
      exact Lib.decFrom_take _ k 0 m _ _ this HG.out hv)
     clear hv
     go_wp2
     go_round
     case rel => exact ⟨k + 1, m * 10 + (s[k].toNat - 48), by go_num, by go_num, by omega, HD2.out, HM2.out⟩
     case measure => simp [intOf]; omega
    ·have HM2 := Lib.hid (show Lib.decFrom 0 (s.data.toList.take (min (k + 1) 10)) = some m by
      have e1 : min (k + 1) 10 = min k 10 := by omega
      rw [e1]; exact HM.out)
     clear hv
     go_wp2
     go_round
     case rel => exact ⟨k + 1, m, rfl, by go_num, by omega, HD2.out, HM2.out⟩
     case measure => simp [intOf]; omega
   | false =>
    have HT := Lib.hid (show s.data.toList.takeWhile Num.isDigit = s.data.toList.take k from Num.takeWhile_at _ k (by rw [hl]; omega) HD.out (fun b hb => by rw [HG.out] at hb; cases hb; exact hdig))
    have hb : ¬ (48 ≤ s[k].toNat ∧ s[k].toNat ≤ 57) := by
     intro h; simp [Num.isDigit, h] at hdig
    clear hdig
    by_cases h48 : (48 : Int) ≤ s[k].toNat
    ·have h57 : ¬ (s[k].toNat : Int) ≤ 57 := by omega
     clear hb
     by_cases h10 : k ≤ 10
     ·go_wp2
      go_ret2
      exact ⟨ret_part (part_small HT.out hk h10 HM.out), rfl⟩
     ·go_wp2
      go_ret2
      exact ⟨ret_part (part_big HT.out hk h10), rfl⟩
    ·clear hb
     by_cases h10 : k ≤ 10
     ·go_wp2
      go_ret2
      exact ⟨ret_part (part_small HT.out hk h10 HM.out), rfl⟩
     ·go_wp2
      go_ret2
      exact ⟨ret_part (part_big HT.out hk h10), rfl⟩
  ·have HT := Lib.hid (show s.data.toList.takeWhile Num.isDigit = s.data.toList.take k from Num.takeWhile_at _ k (by rw [hl]; omega) HD.out (fun b hb => by
    rw [List.getElem?_eq_none (by rw [hl]; omega)] at hb; cases hb))
   by_cases h10 : k ≤ 10
   ·go_wp2
    go_ret2
    exact ⟨ret_part (part_small HT.out hk h10 HM.out), rfl⟩
   ·go_wp2
    go_ret2
    exact ⟨ret_part (part_big HT.out hk h10), rfl⟩
end
section
open Go.RowKit
namespace Num
theorem takeWhile_split (p : UInt8 → Bool) (l : List UInt8) : (∀ b ∈ l.takeWhile p, p b = true) ∧ l = l.takeWhile p ++ l.dropWhile p ∧ (∀ c t, l.dropWhile p = c :: t → p c = false) := by
 induction l with
 | nil => simp
 | cons c l ih =>
  simp only [List.takeWhile_cons, List.dropWhile_cons]
  split
  ·rename_i h
   refine ⟨by simpa [h] using ih.1, by rw [List.cons_append, ← ih.2.1], ih.2.2⟩
  ·rename_i h
   refine ⟨by simp, by simp, ?_⟩
   intro d t hd
   simp only [List.cons.injEq] at hd
   rw [← hd.1]; simpa using h
theorem nat?_part (l : List UInt8) : ((part l).2 ≠ 0 ∧ (part l).2 = l.length → ∃ m : Nat, nat? l = some m ∧ (part l).1 = m) ∧ (¬ ((part l).2 ≠ 0 ∧ (part l).2 = l.length) → nat? l = none) := by
 obtain ⟨hd, hs, hc⟩ := takeWhile_split isDigit l
 obtain ⟨m, hm⟩ := decFrom_digits (l.takeWhile isDigit) 0 hd
 generalize hA : l.takeWhile isDigit = A at *
 generalize hB : l.dropWhile isDigit = B at *
 unfold part
 rw [hA]
 have none_of : (B ≠ [] ∨ 10 < A.length ∨ A = []) → nat? l = none := by
  intro h
  unfold nat?
  split
  ·rename_i hl
   rcases h with h | h | h
   ·unfold Lib.decNat
    split
    ·rfl
    ·refine decFrom_none l 0 ?_
     cases B with
     | nil => exact absurd rfl h
     | cons c t => exact ⟨c, by rw [hs]; simp, hc c t rfl⟩
   ·have := congrArg List.length hs
    rw [List.length_append] at this; omega
   ·cases B with
    | nil => rw [hs, h]; rfl
    | cons c t =>
     unfold Lib.decNat
     split
     ·rfl
     ·exact decFrom_none l 0 ⟨c, by rw [hs]; simp, hc c t rfl⟩
  ·rfl
 have hlen := congrArg List.length hs
 rw [List.length_append] at hlen
 constructor
 ·split
  ·intro h; simp at h
  ·rename_i h10
   intro ⟨h1, h2⟩
   have hB0 : B = [] := by
    apply List.length_eq_zero_iff.1
    simp only at h2; omega
   subst hB0
   rw [List.append_nil] at hs
   subst hs
   refine ⟨m, ?_, by rw [hm]; rfl⟩
   unfold nat? Lib.decNat
   rw [if_pos (by omega), if_neg (by simp only [List.isEmpty_iff]; rintro rfl; simp at h1), hm]
 ·split
  ·rename_i h10
   intro _; exact none_of (.inr (.inl h10))
  ·rename_i h10
   intro h
   by_cases hA0 : A = []
   ·exact none_of (.inr (.inr hA0))
   ·refine none_of (.inl ?_)
    rintro rfl
    apply h
    have : A.length ≠ 0 := fun e => hA0 (List.length_eq_zero_iff.1 e)
    simp only [List.length_nil] at hlen
    constructor
    ·simp only []; omega
    ·simp only []; omega
theorem tw_tw (r : List UInt8) : (r.takeWhile noSlash).takeWhile isDigit = r.takeWhile isDigit := by
 induction r with
 | nil => rfl
 | cons a r ih =>
  cases h : isDigit a with
  | true => simp [noSlash_of_digit h, h, ih]
  | false =>
   cases h2 : noSlash a <;> simp [h, h2]
def fin (neg : Bool) (n d : Int) : Int × Int × Bool :=
 ((mk (if neg then -n else n) d).1, (mk (if neg then -n else n) d).2.1, decide ((mk (if neg then -n else n) d).2.2 = 0))
theorem part_bd (l : List UInt8) : 0 ≤ (part l).1 ∧ (part l).1 < 10000000000 ∧ 0 ≤ (part l).2 ∧ (part l).2 ≤ 10 ∧ (part l).2 ≤ l.length := by
 obtain ⟨hd, hs, hc⟩ := takeWhile_split isDigit l
 obtain ⟨m, hm⟩ := decFrom_digits (l.takeWhile isDigit) 0 hd
 have hlen := congrArg List.length hs
 rw [List.length_append] at hlen
 unfold part
 split
 ·simp
 ·rename_i h10
  have h1 := Lib.decFrom_lt _ 0 m hm
  have hp : 10 ^ (l.takeWhile isDigit).length ≤ 10 ^ 10 := Nat.pow_le_pow_right (by omega) (by omega)
  rw [hm]
  simp only [Option.getD_some]
  omega
theorem parseU_ref (neg : Bool) (r : List UInt8) (n k : Int) (hp : part r = (n, k)) :
  (k = 0 → parseU neg r = (0, 0, false)) ∧ (k ≠ 0 → k = r.length → parseU neg r = fin neg n 1) ∧
  (k ≠ 0 → k < r.length → ∀ b, r[k.toNat]? = some b → b ≠ 47 → parseU neg r = (0, 0, false)) ∧
  (k ≠ 0 → k < r.length → r[k.toNat]? = some 47 → ∀ d j, part (r.drop (k.toNat + 1)) = (d, j) →
   (j = 0 ∨ k + 1 + j ≠ r.length → parseU neg r = (0, 0, false)) ∧ (j ≠ 0 → k + 1 + j = r.length → parseU neg r = fin neg n d)) := by
 have hA : part (r.takeWhile noSlash) = (n, k) := by
  rw [← hp]
  unfold part
  have : (r.takeWhile noSlash).takeWhile isDigit = r.takeWhile isDigit := by
   exact tw_tw r
  rw [this]
 obtain ⟨h1, h2⟩ := nat?_part (r.takeWhile noSlash)
 have bd := part_bd (r.takeWhile noSlash)
 have hkA := bd.2.2.2.2
 have hk0 := bd.2.2.1
 rw [hA] at h1 h2 hkA hk0
 simp only at h1 h2 hkA hk0
 obtain ⟨sd, ss, sc⟩ := takeWhile_split noSlash r
 have hlen := congrArg List.length ss
 rw [List.length_append] at hlen
 have none_of : nat? (r.takeWhile noSlash) = none → parseU neg r = (0, 0, false) := by
  intro h; unfold parseU; rw [h]
 have get : k = (r.takeWhile noSlash).length → r[k.toNat]? = (r.dropWhile noSlash)[0]? := by
  intro h
  have e : r[k.toNat]? = (r.takeWhile noSlash ++ r.dropWhile noSlash)[k.toNat]? := by rw [← ss]
  rw [e, List.getElem?_append_right (by omega)]
  congr 1; omega
 refine ⟨?_, ?_, ?_, ?_⟩
 ·intro h0
  exact none_of (h2 (fun h => h.1 h0))
 ·intro h0 hk
  obtain ⟨m, hm, he⟩ := h1 ⟨h0, by omega⟩
  have hD : r.dropWhile noSlash = [] := List.length_eq_zero_iff.1 (by omega)
  unfold parseU lower
  rw [hm, hD]
  simp only []
  rw [show nat? [49] = some 1 from rfl]
  unfold fin
  rw [he]; rfl
 ·intro h0 hk b hb hne
  refine none_of (h2 ?_)
  intro h
  rw [get h.2] at hb
  cases hD : r.dropWhile noSlash with
  | nil => rw [hD] at hb; cases hb
  | cons c t =>
   rw [hD] at hb
   have := sc c t hD
   simp only [List.getElem?_cons_zero, Option.some.injEq] at hb
   subst hb
   simp only [noSlash, bne_eq_false_iff_eq] at this
   exact hne this
 ·intro h0 hk hb d j hq
  have hkk : k = (r.takeWhile noSlash).length := by
   apply Decidable.byContradiction
   intro hne
   have hlt : k.toNat < (r.takeWhile noSlash).length := by omega
   have e : r[k.toNat]? = (r.takeWhile noSlash ++ r.dropWhile noSlash)[k.toNat]? := by rw [← ss]
   rw [e, List.getElem?_append_left hlt] at hb
   have := sd 47 (List.mem_of_getElem? hb)
   exact absurd this (by decide)
  obtain ⟨m, hm, he⟩ := h1 ⟨h0, hkk⟩
  have hg := get hkk
  rw [hb] at hg
  cases hD : r.dropWhile noSlash with
  | nil => rw [hD] at hg; cases hg
  | cons c t =>
   rw [hD] at hg ss hlen
   simp only [List.getElem?_cons_zero, Option.some.injEq] at hg
   subst hg
   have ht : r.drop (k.toNat + 1) = t := by
    have e : k.toNat + 1 = (r.takeWhile noSlash ++ [47]).length := by rw [List.length_append]; simp; omega
    have e2 : r = (r.takeWhile noSlash ++ [47]) ++ t := by rw [List.append_assoc]; exact ss
    rw [e]
    conv => lhs; rw [e2]
    have : (r.takeWhile noSlash ++ [47] ++ t).drop (r.takeWhile noSlash ++ [47]).length = t := List.drop_left
    rw [← e2] at this
    rw [← e2]; exact this
   rw [ht] at hq
   obtain ⟨g1, g2⟩ := nat?_part t
   rw [hq] at g1 g2
   simp only at g1 g2
   simp only [List.length_cons] at hlen
   constructor
   ·intro h
    have := g2 (by intro hc; omega)
    unfold parseU lower
    rw [hm, hD]
    simp only [this]
   ·intro hj hl
    obtain ⟨m', hm', he'⟩ := g1 ⟨hj, by omega⟩
    unfold parseU lower
    rw [hm, hD]
    simp only [hm']
    unfold fin
    rw [he, he']
end Num
end
section
open Go.RowKit
theorem ret_fin {a b : Int} {p q : Bool} {P : Int × Int × Bool} (h : P = (a, b, q)) (h' : p = q) : Ending.returned (.tuple #[.int .i64 a, .int .i64 b, .bool p]) = .returned (.tuple #[.int .i64 P.1, .int .i64 P.2.1, .bool P.2.2]) := by
 rw [h, h']
theorem rpart_b (s : ByteArray) (n : Int) (K : Nat) (h : Num.part s.data.toList = (n, (K : Int))) (hs : s.size ≤ 140737488355328) (w : World) :
  Calls Tryz.prog 163 #[.string s] w fun e w' => e = .returned (.tuple #[.int .i64 n, .int .i64 K]) ∧ w = w' := by
 have := rpart_any s hs w
 simp only [h] at this
 exact this
theorem part_nat (l : List UInt8) : ∃ (n : Int) (K : Nat), Num.part l = (n, (K : Int)) ∧ 0 ≤ n ∧ n < 10000000000 ∧ K ≤ 10 ∧ K ≤ l.length := by
 have h := Num.part_bd l
 refine ⟨(Num.part l).1, (Num.part l).2.toNat, ?_, h.1, h.2.1, by omega, by omega⟩
 rw [Int.toNat_of_nonneg h.2.2.1]
theorem rparse_neg (s R : ByteArray) (res : Int × Int × Bool) (hs : s.size ≤ 140737488355328) (h0 : 0 < s.size) (h45 : ((s[0].toNat : Int) == 45) = true) (hR : s.extract 1 s.size = R) (hRl : R.size ≤ 140737488355328) (hF : res = Num.parseU true R.data.toList) (w : World) :
  Calls Tryz.prog 140 #[.string s] w fun e w' => e = .returned (.tuple #[.int .i64 res.1, .int .i64 res.2.1, .bool res.2.2]) ∧ Below w.heap.size w w' := by
 have hl : R.data.toList.length = R.size := rfl
 obtain ⟨n, K, hp, n0, n1, k0, k1⟩ := part_nat R.data.toList
 obtain ⟨c1, c2, c3, c4⟩ := Num.parseU_ref true R.data.toList n K hp
 rw [hl] at k1 c2 c3 c4
 have e0 : (K : Int).toNat = K := rfl
 rw [e0] at c3 c4
 have HP := Lib.hid hp
 by_cases a0 : K = 0
 ·have hf := Lib.hid (hF.trans (c1 (by omega)))
  clear c1 c2 c3 c4 hF hp e0
  subst a0
  go_enter Tryz.func140, Tryz.ntmps140
  go_wp2_with (first | (go_at_call 163; ((with_reducible refine (rpart_b R n 0 HP.out hRl _).mono ?_); rintro e' w1 ⟨rfl, rfl⟩)))
  go_ret3
  exact ⟨ret_fin hf.out rfl, by first | exact Below.self _ | exact Below.selfN _ _⟩
 have a1 : ((K : Int) == 0) = false := by simpa using a0
 by_cases a2 : K = R.size
 ·have c2' := c2 (by omega) (by omega)
  have HC := Lib.hid c2'
  have a3 : ¬ K < R.size := by omega
  have A2 := Lib.hid a2
  clear c1 c2 c3 c4 c2' e0 a2
  obtain ⟨x, y, z, hm⟩ : ∃ x y z, Num.mk (-n) 1 = (x, y, z) := ⟨_, _, _, rfl⟩
  have HM := Lib.hid hm
  have HF := Lib.hid (hF.trans ((HC.out).trans (show Num.fin true n 1 = (x, y, decide (z = 0)) by unfold Num.fin; simp [hm])))
  clear hm hp hF
  go_enter Tryz.func140, Tryz.ntmps140
  go_wp2_with (first | (go_at_call 163; ((with_reducible refine (rpart_b R n K HP.out hRl _).mono ?_); rintro e' w1 ⟨rfl, rfl⟩)) | (go_at_call 164; refine (rmake_to (-n) 1 x y z HM.out (by omega) (by omega) (by omega) (by omega) _).mono ?_; rintro e' w1 ⟨rfl, nk, rfl⟩))
  go_ret3
  exact ⟨ret_fin HF.out (by first | rfl | simp), by first | exact Below.self _ | exact Below.selfN _ _⟩
 have a4 : K < R.size := by omega
 have hg : R.data.toList[K]? = some R[K] := by rw [List.getElem?_eq_getElem (by rw [hl]; exact a4)]; rfl
 cases b : ((R[K].toNat : Int) == 47) with
 | false =>
  have hne : R[K] ≠ 47 := by rintro h; rw [h] at b; exact absurd b (by decide)
  have hf := Lib.hid (hF.trans (c3 (by omega) (by omega) _ hg hne))
  have A2 := Lib.hid a2
  clear c1 c2 c3 c4 hF hp e0 hg hne a2
  go_enter Tryz.func140, Tryz.ntmps140
  go_wp2_with (first | (go_at_call 163; ((with_reducible refine (rpart_b R n K HP.out hRl _).mono ?_); rintro e' w1 ⟨rfl, rfl⟩)))
  go_ret3
  exact ⟨ret_fin hf.out rfl, by first | exact Below.self _ | exact Below.selfN _ _⟩
 | true =>
  have heq : R[K] = 47 := by
   have : (R[K].toNat : Int) = 47 := by simpa using b
   apply UInt8.toNat_inj.1
   show R[K].toNat = 47
   omega
  rw [heq] at hg
  obtain ⟨T, hT⟩ : ∃ T, R.extract (K + 1) R.size = T := ⟨_, rfl⟩
  have hTd : T.data.toList = R.data.toList.drop (K + 1) := by
   rw [← hT, extract_list, ← hl, List.take_length]
  have hTs : T.size = R.size - (K + 1) := by rw [← hT]; simp
  have hTl : T.size ≤ 140737488355328 := by omega
  obtain ⟨d, J, hq, d0, d1, j0, j1⟩ := part_nat T.data.toList
  have HQ := Lib.hid hq
  rw [hTd] at hq
  obtain ⟨g1, g2⟩ := c4 (by omega) (by omega) hg d J hq
  have A2 := Lib.hid a2
  clear c1 c2 c3 c4 e0 hg heq hq hTd j1 a2
  by_cases b0 : J = 0
  ·have hf := Lib.hid (hF.trans (g1 (.inl (by omega))))
   clear g1 g2 hF hp
   subst b0
   go_enter Tryz.func140, Tryz.ntmps140
   go_wp2_with (first | (go_at_call 163; ((with_reducible refine (rpart_b R n K HP.out hRl _).mono ?_); rintro e' w1 ⟨rfl, rfl⟩)) | (go_at_call 163; ((with_reducible refine (rpart_b T d 0 HQ.out hTl _).mono ?_); rintro e' w1 ⟨rfl, rfl⟩)))
   go_ret3
   exact ⟨ret_fin hf.out rfl, by first | exact Below.self _ | exact Below.selfN _ _⟩
  have b1 : ((J : Int) == 0) = false := by simpa using b0
  by_cases b2 : K + 1 + J = R.size
  ·have g2' := g2 (by omega) (by omega)
   have HC := Lib.hid g2'
   have b3 : ((K : Int) + 1 + J != R.size) = false := by simp; omega
   have B2 := Lib.hid b2
   clear g1 g2 g2' b2
   obtain ⟨x, y, z, hm⟩ : ∃ x y z, Num.mk (-n) d = (x, y, z) := ⟨_, _, _, rfl⟩
   have HM := Lib.hid hm
   have HF := Lib.hid (hF.trans ((HC.out).trans (show Num.fin true n d = (x, y, decide (z = 0)) by unfold Num.fin; simp [hm])))
   clear hm hp hF
   go_enter Tryz.func140, Tryz.ntmps140
   go_wp2_with (first | (go_at_call 163; ((with_reducible refine (rpart_b R n K HP.out hRl _).mono ?_); rintro e' w1 ⟨rfl, rfl⟩)) | (go_at_call 163; ((with_reducible refine (rpart_b T d J HQ.out hTl _).mono ?_); rintro e' w1 ⟨rfl, rfl⟩)) | (go_at_call 164; refine (rmake_to (-n) d x y z HM.out (by omega) (by omega) (by omega) (by omega) _).mono ?_; rintro e' w1 ⟨rfl, nk, rfl⟩))
   go_ret3
   exact ⟨ret_fin HF.out (by first | rfl | simp), by first | exact Below.self _ | exact Below.selfN _ _⟩
  ·have hf := Lib.hid (hF.trans (g1 (.inr (by omega))))
   have b3 : ((K : Int) + 1 + J != R.size) = true := by simp; omega
   have B2 := Lib.hid b2
   clear g1 g2 hF hp b2
   go_enter Tryz.func140, Tryz.ntmps140
   go_wp2_with (first | (go_at_call 163; ((with_reducible refine (rpart_b R n K HP.out hRl _).mono ?_); rintro e' w1 ⟨rfl, rfl⟩)) | (go_at_call 163; ((with_reducible refine (rpart_b T d J HQ.out hTl _).mono ?_); rintro e' w1 ⟨rfl, rfl⟩)))
   go_ret3
   exact ⟨ret_fin hf.out rfl, by first | exact Below.self _ | exact Below.selfN _ _⟩
theorem rparse_pos (s R : ByteArray) (res : Int × Int × Bool) (hs : s.size ≤ 140737488355328) (h0 : 0 < s.size) (h45 : ((s[0].toNat : Int) == 45) = false) (hR : s = R) (hRl : R.size ≤ 140737488355328) (hF : res = Num.parseU false R.data.toList) (w : World) :
  Calls Tryz.prog 140 #[.string s] w fun e w' => e = .returned (.tuple #[.int .i64 res.1, .int .i64 res.2.1, .bool res.2.2]) ∧ Below w.heap.size w w' := by
 subst hR
 have hl : s.data.toList.length = s.size := rfl
 obtain ⟨n, K, hp, n0, n1, k0, k1⟩ := part_nat s.data.toList
 obtain ⟨c1, c2, c3, c4⟩ := Num.parseU_ref false s.data.toList n K hp
 rw [hl] at k1 c2 c3 c4
 have e0 : (K : Int).toNat = K := rfl
 rw [e0] at c3 c4
 have HP := Lib.hid hp
 by_cases a0 : K = 0
 ·have hf := Lib.hid (hF.trans (c1 (by omega)))
  clear c1 c2 c3 c4 hF hp e0
  subst a0
  go_enter Tryz.func140, Tryz.ntmps140
  go_wp2_with (first | (go_at_call 163; ((with_reducible refine (rpart_b s n 0 HP.out hRl _).mono ?_); rintro e' w1 ⟨rfl, rfl⟩)))
  go_ret3
  exact ⟨ret_fin hf.out rfl, by first | exact Below.self _ | exact Below.selfN _ _⟩
 have a1 : ((K : Int) == 0) = false := by simpa using a0
 by_cases a2 : K = s.size
 ·have c2' := c2 (by omega) (by omega)
  have HC := Lib.hid c2'
  have a3 : ¬ K < s.size := by omega
  have A2 := Lib.hid a2
  clear c1 c2 c3 c4 c2' e0 a2
  obtain ⟨x, y, z, hm⟩ : ∃ x y z, Num.mk n 1 = (x, y, z) := ⟨_, _, _, rfl⟩
  have HM := Lib.hid hm
  have HF := Lib.hid (hF.trans ((HC.out).trans (show Num.fin false n 1 = (x, y, decide (z = 0)) by unfold Num.fin; simp [hm])))
  clear hm hp hF
  go_enter Tryz.func140, Tryz.ntmps140
  go_wp2_with (first | (go_at_call 163; ((with_reducible refine (rpart_b s n K HP.out hRl _).mono ?_); rintro e' w1 ⟨rfl, rfl⟩)) | (go_at_call 164; refine (rmake_to n 1 x y z HM.out (by omega) (by omega) (by omega) (by omega) _).mono ?_; rintro e' w1 ⟨rfl, nk, rfl⟩))
  go_ret3
  exact ⟨ret_fin HF.out (by first | rfl | simp), by first | exact Below.self _ | exact Below.selfN _ _⟩
 have a4 : K < s.size := by omega
 have hg : s.data.toList[K]? = some s[K] := by rw [List.getElem?_eq_getElem (by rw [hl]; exact a4)]; rfl
 cases b : ((s[K].toNat : Int) == 47) with
 | false =>
  have hne : s[K] ≠ 47 := by rintro h; rw [h] at b; exact absurd b (by decide)
  have hf := Lib.hid (hF.trans (c3 (by omega) (by omega) _ hg hne))
  have A2 := Lib.hid a2
  clear c1 c2 c3 c4 hF hp e0 hg hne a2
  go_enter Tryz.func140, Tryz.ntmps140
  go_wp2_with (first | (go_at_call 163; ((with_reducible refine (rpart_b s n K HP.out hRl _).mono ?_); rintro e' w1 ⟨rfl, rfl⟩)))
  go_ret3
  exact ⟨ret_fin hf.out rfl, by first | exact Below.self _ | exact Below.selfN _ _⟩
 | true =>
  have heq : s[K] = 47 := by
   have : (s[K].toNat : Int) = 47 := by simpa using b
   apply UInt8.toNat_inj.1
   show s[K].toNat = 47
   omega
  rw [heq] at hg
  obtain ⟨T, hT⟩ : ∃ T, s.extract (K + 1) s.size = T := ⟨_, rfl⟩
  have hTd : T.data.toList = s.data.toList.drop (K + 1) := by
   rw [← hT, extract_list, ← hl, List.take_length]
  have hTs : T.size = s.size - (K + 1) := by rw [← hT]; simp
  have hTl : T.size ≤ 140737488355328 := by omega
  obtain ⟨d, J, hq, d0, d1, j0, j1⟩ := part_nat T.data.toList
  have HQ := Lib.hid hq
  rw [hTd] at hq
  obtain ⟨g1, g2⟩ := c4 (by omega) (by omega) hg d J hq
  have A2 := Lib.hid a2
  clear c1 c2 c3 c4 e0 hg heq hq hTd j1 a2
  by_cases b0 : J = 0
  ·have hf := Lib.hid (hF.trans (g1 (.inl (by omega))))
   clear g1 g2 hF hp
   subst b0
   go_enter Tryz.func140, Tryz.ntmps140
   go_wp2_with (first | (go_at_call 163; ((with_reducible refine (rpart_b s n K HP.out hRl _).mono ?_); rintro e' w1 ⟨rfl, rfl⟩)) | (go_at_call 163; ((with_reducible refine (rpart_b T d 0 HQ.out hTl _).mono ?_); rintro e' w1 ⟨rfl, rfl⟩)))
   go_ret3
   exact ⟨ret_fin hf.out rfl, by first | exact Below.self _ | exact Below.selfN _ _⟩
  have b1 : ((J : Int) == 0) = false := by simpa using b0
  by_cases b2 : K + 1 + J = s.size
  ·have g2' := g2 (by omega) (by omega)
   have HC := Lib.hid g2'
   have b3 : ((K : Int) + 1 + J != s.size) = false := by simp; omega
   have B2 := Lib.hid b2
   clear g1 g2 g2' b2
   obtain ⟨x, y, z, hm⟩ : ∃ x y z, Num.mk n d = (x, y, z) := ⟨_, _, _, rfl⟩
   have HM := Lib.hid hm
   have HF := Lib.hid (hF.trans ((HC.out).trans (show Num.fin false n d = (x, y, decide (z = 0)) by unfold Num.fin; simp [hm])))
   clear hm hp hF
   go_enter Tryz.func140, Tryz.ntmps140
   go_wp2_with (first | (go_at_call 163; ((with_reducible refine (rpart_b s n K HP.out hRl _).mono ?_); rintro e' w1 ⟨rfl, rfl⟩)) | (go_at_call 163; ((with_reducible refine (rpart_b T d J HQ.out hTl _).mono ?_); rintro e' w1 ⟨rfl, rfl⟩)) | (go_at_call 164; refine (rmake_to n d x y z HM.out (by omega) (by omega) (by omega) (by omega) _).mono ?_; rintro e' w1 ⟨rfl, nk, rfl⟩))
   go_ret3
   exact ⟨ret_fin HF.out (by first | rfl | simp), by first | exact Below.self _ | exact Below.selfN _ _⟩
  ·have hf := Lib.hid (hF.trans (g1 (.inr (by omega))))
   have b3 : ((K : Int) + 1 + J != s.size) = true := by simp; omega
   have B2 := Lib.hid b2
   clear g1 g2 hF hp b2
   go_enter Tryz.func140, Tryz.ntmps140
   go_wp2_with (first | (go_at_call 163; ((with_reducible refine (rpart_b s n K HP.out hRl _).mono ?_); rintro e' w1 ⟨rfl, rfl⟩)) | (go_at_call 163; ((with_reducible refine (rpart_b T d J HQ.out hTl _).mono ?_); rintro e' w1 ⟨rfl, rfl⟩)))
   go_ret3
   exact ⟨ret_fin hf.out rfl, by first | exact Below.self _ | exact Below.selfN _ _⟩
theorem rparse_empty (s R : ByteArray) (res : Int × Int × Bool) (_hs : s.size ≤ 140737488355328) (h0 : s.size = 0) (hR : s = R) (hRl : R.size ≤ 140737488355328) (hF : res = Num.parseU false R.data.toList) (w : World) :
  Calls Tryz.prog 140 #[.string s] w fun e w' => e = .returned (.tuple #[.int .i64 res.1, .int .i64 res.2.1, .bool res.2.2]) ∧ Below w.heap.size w w' := by
 subst hR
 have hl : s.data.toList.length = s.size := rfl
 obtain ⟨n, K, hp, n0, n1, k0, k1⟩ := part_nat s.data.toList
 obtain ⟨c1, c2, c3, c4⟩ := Num.parseU_ref false s.data.toList n K hp
 rw [hl] at k1 c2 c3 c4
 have e0 : (K : Int).toNat = K := rfl
 rw [e0] at c3 c4
 have HP := Lib.hid hp
 by_cases a0 : K = 0
 ·have hf := Lib.hid (hF.trans (c1 (by omega)))
  clear c1 c2 c3 c4 hF hp e0
  subst a0
  go_enter Tryz.func140, Tryz.ntmps140
  go_wp2_with (first | (go_at_call 163; ((with_reducible refine (rpart_b s n 0 HP.out hRl _).mono ?_); rintro e' w1 ⟨rfl, rfl⟩)))
  go_ret3
  exact ⟨ret_fin hf.out rfl, by first | exact Below.self _ | exact Below.selfN _ _⟩
 ·exfalso; omega
theorem rparse_any (s : ByteArray) (hs : s.size ≤ 140737488355328) (w : World) :
  Calls Tryz.prog 140 #[.string s] w fun e w' => e = .returned (.tuple #[.int .i64 (Num.parse s.data.toList).1, .int .i64 (Num.parse s.data.toList).2.1, .bool (Num.parse s.data.toList).2.2]) ∧ Below w.heap.size w w' := by
 have hl : s.data.toList.length = s.size := rfl
 by_cases h0 : 0 < s.size
 ·have hg : s.data.toList[0]? = some s[0] := by rw [List.getElem?_eq_getElem (by rw [hl]; exact h0)]; rfl
  cases hc : s.data.toList with
  | nil => rw [hc] at hg; cases hg
  | cons b r =>
   rw [hc] at hg
   simp only [List.getElem?_cons_zero, Option.some.injEq] at hg
   by_cases hb : b = 45
   ·have h45 : ((s[0].toNat : Int) == 45) = true := by rw [← hg, hb]; decide
    have hx : (s.extract 1 s.size).data.toList = r := by
     rw [extract_list, ← hl, List.take_length, hc]; rfl
    refine rparse_neg s _ _ hs h0 h45 rfl (by simp; omega) ?_ w
    rw [hx, hb]; rfl
   ·have h45 : ((s[0].toNat : Int) == 45) = false := by
     rw [← hg]
     simp only [beq_eq_false_iff_ne, ne_eq]
     intro h
     apply hb
     apply UInt8.toNat_inj.1
     show b.toNat = 45
     omega
    refine rparse_pos s _ _ hs h0 h45 rfl hs ?_ w
    rw [hc]
    unfold Num.parse
    split
    ·rename_i h; simp only [List.cons.injEq] at h; exact absurd h.1 hb
    ·rfl
 ·refine rparse_empty s _ _ hs (by omega) rfl hs ?_ w
  have : s.data.toList = [] := List.length_eq_zero_iff.1 (by rw [hl]; omega)
  rw [this]; rfl
end
end Go.Proofs.YtigkhmppnnljiaaGreatDoor

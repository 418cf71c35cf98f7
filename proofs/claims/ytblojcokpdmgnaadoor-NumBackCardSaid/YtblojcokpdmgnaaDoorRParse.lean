/-
  The contracts of corbelref01.Text and Parse.
-/
import Derived.Test.YtblojcokpdmgnaaDoorRText
namespace Go.Proofs.YtblojcokpdmgnaaDoor
open Go.RowKit

theorem rtext_any (n d : Int) (h0 : -9223372036854775808 ≤ n) (h1 : n ≤ 9223372036854775807) (h2 : -9223372036854775808 ≤ d) (h3 : d ≤ 9223372036854775807) (w : World) :
    Calls Tryd.prog 14 #[.int .i64 n, .int .i64 d] w fun e w' => e = .returned (.string ⟨(Num.text n d).toArray⟩) ∧ Below w.heap.size w w' := by
  cases hr : Num.right n d
  · have HK := Lib.hid (show Num.text n d = [] by simp [Num.text, hr])
    have HR := Lib.hid hr
    go_enter Tryd.func14, Tryd.ntmps14
    go_wp2_with (first | (go_at_call 39; refine (rright_to n d false HR.out (by omega) (by omega) (by omega) (by omega) _).mono ?_; rintro e' w1 ⟨rfl, k, rfl⟩))
    go_ret
    exact ⟨ret_string (l := []) HK.out.symm, Below.selfN _ _⟩
  have HR := Lib.hid hr
  have hb := hr
  rw [Num.right_iff] at hb
  obtain ⟨b1, b2, b3, b4, _⟩ := hb
  obtain ⟨D, rfl⟩ := Int.eq_ofNat_of_zero_le (show 0 ≤ d by omega)
  obtain ⟨u, hu⟩ : ∃ u, n.natAbs = u := ⟨_, rfl⟩
  have hub : u ≤ 2147483647 := by omega
  have l1 : (Lib.decDigits u).length ≤ 20 := by rw [Lib.decDigits_length]; exact Lib.nDigits_le20 u (by omega)
  have l2 : (Lib.decDigits D).length ≤ 20 := by rw [Lib.decDigits_length]; exact Lib.nDigits_le20 D (by omega)
  have HI := Lib.hid (show Lib.itoa n = if n < 0 then 45 :: Lib.decDigits u else Lib.decDigits u by
    by_cases hneg : n < 0
    · simp [Lib.itoa, hneg, hu]
    · have : n.toNat = u := by omega
      simp [Lib.itoa, hneg, this])
  have HT := Lib.hid (show Num.text n D = Lib.itoa n ++ (if (D : Int) = 1 then [] else 47 :: Lib.decDigits D) by
    unfold Num.text; rw [if_pos hr]
    split
    · rfl
    · rw [Num.itoa_nat (d := (D : Int)) (by omega)]; rfl)
  clear hr
  have hs := fun w : World => (rsize_any n h0 h1 w)
  rw [hu] at hs
  have HS := Lib.hid hs
  clear hs hu
  cases hn : decide (n < 0) <;> cases hd : ((D : Int) == 1)
  all_goals
    have hn2 := hn
    have hd2 := hd
    have hd3 : ((D : Int) != 1) = !((D : Int) == 1) := rfl
    rw [hd] at hd3
    simp only [decide_eq_true_eq, decide_eq_false_iff_not, beq_iff_eq, beq_eq_false_iff_ne, Int.not_lt, ne_eq] at hn2 hd2
    have HF := Lib.hid (HT.out.trans (by rw [HI.out]))
    have HN2 := Lib.hid hn2
    have HD2 := Lib.hid hd2
    clear hn2 hd2
    go_enter Tryd.func14, Tryd.ntmps14
    go_wp2_with (first | (go_at_call 39; refine (rright_to n D true HR.out (by omega) (by omega) (by omega) (by omega) _).mono ?_; rintro e' w1 ⟨rfl, k, rfl⟩) | (go_at_call 41; refine (HS.out _).mono ?_; rintro e' w1 ⟨rfl, rfl⟩) | (go_at_call 40; ((with_reducible refine (rdigits_any u (by omega) _).mono ?_); rintro e' w2 ⟨rfl, hb⟩)) | (go_at_call 40; ((with_reducible refine (rdigits_any D (by omega) _).mono ?_); rintro e' w3 ⟨rfl, hb2⟩)))
    go_ret
    refine ⟨?_, by first | exact Below.next (Below.ofN hb) hb2 | exact Below.ofN hb⟩
    rw [HF.out]
    have n2 := HN2.out
    have d2 := HD2.out
    refine congrArg Ending.returned (congrArg Value.string ?_)
    first
      | (rw [if_neg (by omega : ¬ n < 0), if_neg d2]; rw [str_app, str_app]; simp; done)
      | (rw [if_neg (by omega : ¬ n < 0), if_pos d2]; simp; done)
      | (rw [if_pos n2, if_neg d2]; rw [str_app, str_app, str_app]; simp; done)
      | (rw [if_pos n2, if_pos d2]; rw [str_app]; simp; done)

namespace Num
theorem takeWhile_split (p : UInt8 → Bool) (l : List UInt8) : (∀ b ∈ l.takeWhile p, p b = true) ∧ l = l.takeWhile p ++ l.dropWhile p ∧ (∀ c t, l.dropWhile p = c :: t → p c = false) := by
  induction l with
  | nil => simp
  | cons c l ih =>
    simp only [List.takeWhile_cons, List.dropWhile_cons]
    split
    · rename_i h
      refine ⟨by simpa [h] using ih.1, by rw [List.cons_append, ← ih.2.1], ih.2.2⟩
    · rename_i h
      refine ⟨by simp, by simp, ?_⟩
      intro d t hd
      simp only [List.cons.injEq] at hd
      rw [← hd.1]; simpa using h

/-- All of a text is one to ten digits, or it is none. -/
theorem nat?_part (l : List UInt8) : ((part l).2 ≠ 0 ∧ (part l).2 = l.length → ∃ m : Nat, nat? l = some m ∧ (part l).1 = m) ∧ (¬ ((part l).2 ≠ 0 ∧ (part l).2 = l.length) → nat? l = none) := by
  obtain ⟨hd, hs, hc⟩ := takeWhile_split isDigit l
  obtain ⟨m, hm⟩ := decFrom_digits (l.takeWhile isDigit) 0 hd
  generalize hA : l.takeWhile isDigit = A at *
  generalize hB : l.dropWhile isDigit = B at *
  unfold part
  rw [hA]
  have none_of : (B ≠ [] ∨ 10 < A.length ∨ A = []) → nat? l = none := by
    intro h
    unfold nat?
    split
    · rename_i hl
      rcases h with h | h | h
      · unfold Lib.decNat
        split
        · rfl
        · refine decFrom_none l 0 ?_
          cases B with
          | nil => exact absurd rfl h
          | cons c t => exact ⟨c, by rw [hs]; simp, hc c t rfl⟩
      · have := congrArg List.length hs
        rw [List.length_append] at this; omega
      · cases B with
        | nil => rw [hs, h]; rfl
        | cons c t =>
          unfold Lib.decNat
          split
          · rfl
          · exact decFrom_none l 0 ⟨c, by rw [hs]; simp, hc c t rfl⟩
    · rfl
  have hlen := congrArg List.length hs
  rw [List.length_append] at hlen
  constructor
  · split
    · intro h; simp at h
    · rename_i h10
      intro ⟨h1, h2⟩
      have hB0 : B = [] := by
        apply List.length_eq_zero_iff.1
        simp only at h2; omega
      subst hB0
      rw [List.append_nil] at hs
      subst hs
      refine ⟨m, ?_, by rw [hm]; rfl⟩
      unfold nat? Lib.decNat
      rw [if_pos (by omega), if_neg (by simp only [List.isEmpty_iff]; rintro rfl; simp at h1), hm]
  · split
    · rename_i h10
      intro _; exact none_of (.inr (.inl h10))
    · rename_i h10
      intro h
      by_cases hA0 : A = []
      · exact none_of (.inr (.inr hA0))
      · refine none_of (.inl ?_)
        rintro rfl
        apply h
        have : A.length ≠ 0 := fun e => hA0 (List.length_eq_zero_iff.1 e)
        simp only [List.length_nil] at hlen
        constructor
        · simp only []; omega
        · simp only []; omega

theorem tw_tw (r : List UInt8) : (r.takeWhile noSlash).takeWhile isDigit = r.takeWhile isDigit := by
  induction r with
  | nil => rfl
  | cons a r ih =>
    cases h : isDigit a with
    | true => simp [List.takeWhile_cons, noSlash_of_digit h, h, ih]
    | false =>
      cases h2 : noSlash a <;> simp [List.takeWhile_cons, h, h2]

/-- The end of a parse. -/
def fin (neg : Bool) (n d : Int) : Int × Int × Bool :=
  ((mk (if neg then -n else n) d).1, (mk (if neg then -n else n) d).2.1, decide ((mk (if neg then -n else n) d).2.2 = 0))

theorem part_bd (l : List UInt8) : 0 ≤ (part l).1 ∧ (part l).1 < 10000000000 ∧ 0 ≤ (part l).2 ∧ (part l).2 ≤ 10 ∧ (part l).2 ≤ l.length := by
  obtain ⟨hd, hs, hc⟩ := takeWhile_split isDigit l
  obtain ⟨m, hm⟩ := decFrom_digits (l.takeWhile isDigit) 0 hd
  have hlen := congrArg List.length hs
  rw [List.length_append] at hlen
  unfold part
  split
  · simp
  · rename_i h10
    have h1 := Lib.decFrom_lt _ 0 m hm
    have hp : 10 ^ (l.takeWhile isDigit).length ≤ 10 ^ 10 := Nat.pow_le_pow_right (by omega) (by omega)
    rw [hm]
    simp only [Option.getD_some]
    omega

/-- corbelref01.Parse behind its sign, as it is typed there. -/
theorem parseU_ref (neg : Bool) (r : List UInt8) (n k : Int) (hp : part r = (n, k)) :
    (k = 0 → parseU neg r = (0, 0, false)) ∧ (k ≠ 0 → k = r.length → parseU neg r = fin neg n 1) ∧
    (k ≠ 0 → k < r.length → ∀ b, r[k.toNat]? = some b → b ≠ 47 → parseU neg r = (0, 0, false)) ∧
    (k ≠ 0 → k < r.length → r[k.toNat]? = some 47 → ∀ d j, part (r.drop (k.toNat + 1)) = (d, j) →
      (j = 0 ∨ k + 1 + j ≠ r.length → parseU neg r = (0, 0, false)) ∧ (j ≠ 0 → k + 1 + j = r.length → parseU neg r = fin neg n d)) := by
  have hA : part (r.takeWhile noSlash) = (n, k) := by
    rw [← hp]
    unfold part
    have : (r.takeWhile noSlash).takeWhile isDigit = r.takeWhile isDigit := by
      exact tw_tw r
    rw [this]
  obtain ⟨h1, h2⟩ := nat?_part (r.takeWhile noSlash)
  have bd := part_bd (r.takeWhile noSlash)
  have hkA := bd.2.2.2.2
  have hk0 := bd.2.2.1
  rw [hA] at h1 h2 hkA hk0
  simp only at h1 h2 hkA hk0
  obtain ⟨sd, ss, sc⟩ := takeWhile_split noSlash r
  have hlen := congrArg List.length ss
  rw [List.length_append] at hlen
  have none_of : nat? (r.takeWhile noSlash) = none → parseU neg r = (0, 0, false) := by
    intro h; unfold parseU; rw [h]
  have get : k = (r.takeWhile noSlash).length → r[k.toNat]? = (r.dropWhile noSlash)[0]? := by
    intro h
    have e : r[k.toNat]? = (r.takeWhile noSlash ++ r.dropWhile noSlash)[k.toNat]? := by rw [← ss]
    rw [e, List.getElem?_append_right (by omega)]
    congr 1; omega
  refine ⟨?_, ?_, ?_, ?_⟩
  · intro h0
    exact none_of (h2 (fun h => h.1 h0))
  · intro h0 hk
    obtain ⟨m, hm, he⟩ := h1 ⟨h0, by omega⟩
    have hD : r.dropWhile noSlash = [] := List.length_eq_zero_iff.1 (by omega)
    unfold parseU lower
    rw [hm, hD]
    simp only []
    rw [show nat? [49] = some 1 from rfl]
    unfold fin
    rw [he]; rfl
  · intro h0 hk b hb hne
    refine none_of (h2 ?_)
    intro h
    rw [get h.2] at hb
    cases hD : r.dropWhile noSlash with
    | nil => rw [hD] at hb; cases hb
    | cons c t =>
      rw [hD] at hb
      have := sc c t hD
      simp only [List.getElem?_cons_zero, Option.some.injEq] at hb
      subst hb
      simp only [noSlash, bne_eq_false_iff_eq] at this
      exact hne this
  · intro h0 hk hb d j hq
    have hkk : k = (r.takeWhile noSlash).length := by
      apply Decidable.byContradiction
      intro hne
      have hlt : k.toNat < (r.takeWhile noSlash).length := by omega
      have e : r[k.toNat]? = (r.takeWhile noSlash ++ r.dropWhile noSlash)[k.toNat]? := by rw [← ss]
      rw [e, List.getElem?_append_left hlt] at hb
      have := sd 47 (List.mem_of_getElem? hb)
      exact absurd this (by decide)
    obtain ⟨m, hm, he⟩ := h1 ⟨h0, hkk⟩
    have hg := get hkk
    rw [hb] at hg
    cases hD : r.dropWhile noSlash with
    | nil => rw [hD] at hg; cases hg
    | cons c t =>
      rw [hD] at hg ss hlen
      simp only [List.getElem?_cons_zero, Option.some.injEq] at hg
      subst hg
      have ht : r.drop (k.toNat + 1) = t := by
        have e : k.toNat + 1 = (r.takeWhile noSlash ++ [47]).length := by rw [List.length_append]; simp; omega
        have e2 : r = (r.takeWhile noSlash ++ [47]) ++ t := by rw [List.append_assoc]; exact ss
        rw [e]
        conv => lhs; rw [e2]
        have : (r.takeWhile noSlash ++ [47] ++ t).drop (r.takeWhile noSlash ++ [47]).length = t := List.drop_left
        rw [← e2] at this
        rw [← e2]; exact this
      rw [ht] at hq
      obtain ⟨g1, g2⟩ := nat?_part t
      rw [hq] at g1 g2
      simp only at g1 g2
      simp only [List.length_cons] at hlen
      constructor
      · intro h
        have := g2 (by intro hc; omega)
        unfold parseU lower
        rw [hm, hD]
        simp only [this]
      · intro hj hl
        obtain ⟨m', hm', he'⟩ := g1 ⟨hj, by omega⟩
        unfold parseU lower
        rw [hm, hD]
        simp only [hm']
        unfold fin
        rw [he, he']
end Num

end Go.Proofs.YtblojcokpdmgnaaDoor

/-
  The contracts of strings.Cut at a slash and of num.Parse: what TextLaw's Num.parse says.
-/
import Derived.Test.YtlpkpkcfgchngaaDoorNatural
import Derived.WalkSpells
namespace Go.Proofs.YtlpkpkcfgchngaaDoor
open Go.RowKit

namespace Num
/-- Where a slash stands. -/
theorem indexByte_slash (l : List UInt8) : (Lib.indexByte l 47 = -1 ∧ l.takeWhile noSlash = l ∧ l.dropWhile noSlash = []) ∨
    (∃ i : Nat, Lib.indexByte l 47 = i ∧ i < l.length ∧ l.takeWhile noSlash = l.take i ∧ l.dropWhile noSlash = 47 :: l.drop (i + 1)) := by
  induction l with
  | nil => left; exact ⟨rfl, rfl, rfl⟩
  | cons b l ih =>
    by_cases hb : b = 47
    · subst hb
      right
      exact ⟨0, by simp [Lib.indexByte], by simp, by simp [noSlash], by simp [noSlash]⟩
    · have hn : noSlash b = true := by simpa [noSlash] using hb
      have hb0 : (b == 47) = false := by simpa using hb
      rcases ih with ⟨h1, h2, h3⟩ | ⟨i, h1, h2, h3, h4⟩
      · left
        refine ⟨by simp [Lib.indexByte, hb0, h1], by simp [List.takeWhile_cons, hn, h2], by simp [List.dropWhile_cons, hn, h3]⟩
      · right
        refine ⟨i + 1, ?_, by simp; omega, by simp [List.takeWhile_cons, hn, h3], by simp [List.dropWhile_cons, hn, h4]⟩
        have hne : ((i : Int) == -1) = false := by simp
        simp only [Lib.indexByte, hb0, h1, hne]
        simp
end Num

theorem extract_list (s : ByteArray) (a b : Nat) : s.extract a b = ⟨((s.data.toList.take b).drop a).toArray⟩ := by
  apply ByteArray.ext
  rw [ByteArray.data_extract]
  apply Array.ext'
  simp [Array.toList_extract, List.extract_eq_take_drop, List.drop_take]

theorem str_self (s : ByteArray) : (⟨s.data.toList.toArray⟩ : ByteArray) = s := by
  obtain ⟨⟨l⟩⟩ := s; rfl

theorem ret_cut {a b a' b' : ByteArray} {c c' : Bool} (h1 : a = a') (h2 : b = b') (h3 : c = c') : Ending.returned (.tuple #[.string a, .string b, .bool c]) = .returned (.tuple #[.string a', .string b', .bool c']) := by
  rw [h1, h2, h3]

theorem cutlite_any (s : ByteArray) (hs : s.size ≤ 9223372036854775807) (w : World) :
    Calls Tryd.prog 61 #[.string s, .string ⟨#[47]⟩] w fun e w' => e = .returned (.tuple #[.string ⟨(s.data.toList.takeWhile Num.noSlash).toArray⟩, .string ⟨((s.data.toList.dropWhile Num.noSlash).tail).toArray⟩, .bool (!(s.data.toList.dropWhile Num.noSlash).isEmpty)]) ∧ Below w.heap.size w w' := by
  have hl : s.data.toList.length = s.size := rfl
  have hI := Tryd.stringslite_Index_one s 47
  rcases Num.indexByte_slash s.data.toList with ⟨h1, h2, h3⟩ | ⟨i, h1, h2, h3, h4⟩
  · rw [h1] at hI
    have HI := Lib.hid hI
    rw [h2, h3]
    clear hI h1 h2 h3
    go_enter Tryd.func61, Tryd.ntmps61
    go_wp2_with (first | (go_at_call 69; refine (HI.out _).mono ?_; rintro e' w1 ⟨rfl, rfl⟩))
    go_ret3
    exact ⟨ret_cut (str_self s).symm rfl rfl, Below.self _⟩
  · rw [h1] at hI
    have HI := Lib.hid hI
    rw [h3, h4]
    rw [hl] at h2
    clear hI h1 h3 h4
    go_enter Tryd.func61, Tryd.ntmps61
    go_wp2_with (first | (go_at_call 69; refine (HI.out _).mono ?_; rintro e' w1 ⟨rfl, rfl⟩))
    go_quiet (fail)
    go_wp2
    go_ret3
    exact ⟨ret_cut (by rw [extract_list]; simp) (by rw [extract_list, ← hl, List.take_length]; rfl) rfl, Below.selfN _ _⟩

theorem cut_any (s : ByteArray) (hs : s.size ≤ 9223372036854775807) (w : World) :
    Calls Tryd.prog 50 #[.string s, .string ⟨#[47]⟩] w fun e w' => e = .returned (.tuple #[.string ⟨(s.data.toList.takeWhile Num.noSlash).toArray⟩, .string ⟨((s.data.toList.dropWhile Num.noSlash).tail).toArray⟩, .bool (!(s.data.toList.dropWhile Num.noSlash).isEmpty)]) ∧ Below w.heap.size w w' := by
  obtain ⟨A, hA⟩ : ∃ A, s.data.toList.takeWhile Num.noSlash = A := ⟨_, rfl⟩
  obtain ⟨B, hB⟩ : ∃ B, (s.data.toList.dropWhile Num.noSlash).tail = B := ⟨_, rfl⟩
  obtain ⟨c, hc⟩ : ∃ c, (!(s.data.toList.dropWhile Num.noSlash).isEmpty) = c := ⟨_, rfl⟩
  have hI := cutlite_any s hs w
  rw [hA, hB, hc] at hI ⊢
  have HI := Lib.hid hI
  clear hI hA hB hc
  go_enter Tryd.func50, Tryd.ntmps50
  go_wp2_with (first | (go_at_call 61; refine HI.out.mono ?_; rintro e' w1 ⟨rfl, hb⟩))
  go_ret3
  exact ⟨rfl, hb⟩

theorem cut_to (l A B : List UInt8) (c : Bool) (hA : l.takeWhile Num.noSlash = A) (hB : (l.dropWhile Num.noSlash).tail = B) (hc : (!(l.dropWhile Num.noSlash).isEmpty) = c) (hs : l.length ≤ 9223372036854775807) (w : World) :
    Calls Tryd.prog 50 #[.string ⟨l.toArray⟩, .string ⟨#[47]⟩] w fun e w' => e = .returned (.tuple #[.string ⟨A.toArray⟩, .string ⟨B.toArray⟩, .bool c]) ∧ Below w.heap.size w w' := by
  have := cut_any ⟨l.toArray⟩ (by simpa [ByteArray.size] using hs) w
  simp only [hA, hB, hc] at this
  exact this

theorem natural_to (l : List UInt8) (o : Option Nat) (ho : Num.nat? l = o) (hs : l.length ≤ 9223372036854775807) (w : World) :
    Calls Tryd.prog 51 #[.string ⟨l.toArray⟩] w fun e w' => e = .returned (.tuple #[.int .i64 ((o.getD 0 : Nat) : Int), .bool o.isSome]) ∧ Below w.heap.size w w' := by
  have := natural_any ⟨l.toArray⟩ (by simpa [ByteArray.size] using hs) w
  simp only [ho] at this
  exact this

theorem cutPrefix_to (s : ByteArray) (l : List UInt8) (neg : Bool) (h1 : Lib.trimPrefix s.data.toList [45] = l) (h2 : Lib.hasPrefix s.data.toList [45] = neg) (w : World) :
    Calls Tryd.prog 49 #[.string s, .string ⟨#[45]⟩] w fun e w' => e = .returned (.tuple #[.string ⟨l.toArray⟩, .bool neg]) ∧ Below w.heap.size w w' := by
  refine (Tryd.strings_CutPrefix s ⟨#[45]⟩ w).mono ?_
  rintro e w' ⟨rfl, rfl⟩
  rw [show (⟨#[45]⟩ : ByteArray).data.toList = [45] from rfl, h1, h2]
  exact ⟨rfl, Below.self _⟩

namespace Num
theorem nat?_lt {l : List UInt8} {m : Nat} (h : nat? l = some m) : m < 10000000000 := by
  rcases nat?_cases l with ⟨h1, _⟩ | ⟨k, h1, _, _, _, _, h2⟩
  · rw [h1] at h; cases h
  · rw [h1] at h; cases h; exact h2

/-- A text, its sign taken off. -/
theorem parse_cases (l : List UInt8) : ∃ (neg : Bool) (r : List UInt8), Lib.trimPrefix l [45] = r ∧ Lib.hasPrefix l [45] = neg ∧ parse l = parseU neg r ∧ r.length ≤ l.length := by
  cases l with
  | nil => exact ⟨false, [], rfl, rfl, rfl, Nat.le_refl _⟩
  | cons b r =>
    by_cases hb : b = 45
    · subst hb
      exact ⟨true, r, by simp [Lib.trimPrefix, Lib.hasPrefix], by simp [Lib.hasPrefix], rfl, by simp⟩
    · have hb0 : ((45 : UInt8) == b) = false := by simpa using fun h : (45 : UInt8) = b => hb h.symm
      have hp : Lib.hasPrefix (b :: r) [45] = false := by
        unfold Lib.hasPrefix
        simp only [List.isPrefixOf, hb0, Bool.false_and]
      refine ⟨false, b :: r, by unfold Lib.trimPrefix; rw [hp]; rfl, hp, ?_, Nat.le_refl _⟩
      unfold parse
      split
      · rename_i h; simp only [List.cons.injEq] at h; exact absurd h.1 hb
      · rfl

/-- .. cut at its slash. -/
theorem parseU_cases (neg : Bool) (r : List UInt8) : ∃ (A B C : List UInt8) (c : Bool) (oA oC : Option Nat), r.takeWhile noSlash = A ∧ (r.dropWhile noSlash).tail = B ∧ (!(r.dropWhile noSlash).isEmpty) = c ∧
    C = (if c = true then B else [49]) ∧ nat? A = oA ∧ nat? C = oC ∧ A.length ≤ r.length ∧ C.length ≤ r.length + 1 ∧
    parseU neg r = (match oA, oC with
      | some n, some d => ((mk (if neg then -(n : Int) else n) d).1, (mk (if neg then -(n : Int) else n) d).2.1, decide ((mk (if neg then -(n : Int) else n) d).2.2 = 0))
      | _, _ => (0, 0, false)) := by
  refine ⟨_, _, _, _, _, _, rfl, rfl, rfl, rfl, rfl, rfl, (List.takeWhile_sublist _).length_le, ?_, ?_⟩
  · split
    · have := (List.dropWhile_sublist noSlash (l := r)).length_le
      simp only [List.length_tail]; omega
    · simp
  · unfold parseU lower
    cases r.dropWhile noSlash <;> rfl
end Num

theorem ret_parse {a b : Int} {p q : Bool} {P : Int × Int × Bool} (h : P = (a, b, q)) (h' : p = q) : Ending.returned (.tuple #[.int .i64 a, .int .i64 b, .bool p]) = .returned (.tuple #[.int .i64 P.1, .int .i64 P.2.1, .bool P.2.2]) := by
  rw [h, h']

set_option maxHeartbeats 1000000 in
theorem parse_any (s : ByteArray) (hs : s.size ≤ 9223372036854775806) (w : World) :
    Calls Tryd.prog 38 #[.string s] w fun e w' => e = .returned (.tuple #[.int .i64 (Num.parse s.data.toList).1, .int .i64 (Num.parse s.data.toList).2.1, .bool (Num.parse s.data.toList).2.2]) ∧ Below w.heap.size w w' := by
  have hl : s.data.toList.length = s.size := rfl
  obtain ⟨neg, r, h1, h2, h3, h4⟩ := Num.parse_cases s.data.toList
  obtain ⟨A, B, C, c, oA, oC, k1, k2, k3, k4, k5, k6, k7, k8, k9⟩ := Num.parseU_cases neg r
  rw [hl] at h4
  rw [k9] at h3
  have H1 := Lib.hid h1
  have H2 := Lib.hid h2
  have K1 := Lib.hid k1
  have K2 := Lib.hid k2
  have K3 := Lib.hid k3
  have K5 := Lib.hid k5
  have K6 := Lib.hid k6
  have HP := Lib.hid h3
  clear hl h1 h2 h3 k9 k1 k2 k3
  have e0 : s.size ≤ 9223372036854775807 := by omega
  cases oA with
  | none =>
    cases c
    · simp only [Bool.false_eq_true, if_false, if_true, eq_self_iff_true] at k4
      first | (have k4 := k4.symm; subst k4; have _u := B) | subst k4
      go_enter Tryd.func38, Tryd.ntmps38
      go_wp2_with (first | (go_at_call 49; refine (cutPrefix_to s r _ H1.out H2.out _).mono ?_; rintro e' w1 ⟨rfl, hb⟩) | (go_at_call 50; refine (cut_to r A B _ K1.out K2.out K3.out (by omega) _).mono ?_; rintro e' w2 ⟨rfl, hb'⟩; have hb2 := Below.next hb hb'; clear hb') | (go_at_call 51; ((with_reducible refine (natural_to A _ K5.out (by omega) _).mono ?_); rintro e' w3 ⟨rfl, hb'⟩; have hb3 := Below.next hb2 hb'; clear hb')) | (go_at_call 51; ((with_reducible refine (natural_to [49] _ K6.out (by first | omega | (simp only [List.length_cons, List.length_nil]; omega)) _).mono ?_); rintro e' w4 ⟨rfl, hb'⟩; have hb4 := Below.next hb3 hb'; clear hb')))
      all_goals go_ret3
      all_goals exact ⟨ret_parse HP.out rfl, by assumption⟩
    · simp only [Bool.false_eq_true, if_false, if_true, eq_self_iff_true] at k4
      first | (have k4 := k4.symm; subst k4; have _u := B) | subst k4
      go_enter Tryd.func38, Tryd.ntmps38
      go_wp2_with (first | (go_at_call 49; refine (cutPrefix_to s r _ H1.out H2.out _).mono ?_; rintro e' w1 ⟨rfl, hb⟩) | (go_at_call 50; refine (cut_to r A B _ K1.out K2.out K3.out (by omega) _).mono ?_; rintro e' w2 ⟨rfl, hb'⟩; have hb2 := Below.next hb hb'; clear hb') | (go_at_call 51; ((with_reducible refine (natural_to A _ K5.out (by omega) _).mono ?_); rintro e' w3 ⟨rfl, hb'⟩; have hb3 := Below.next hb2 hb'; clear hb')) | (go_at_call 51; ((with_reducible refine (natural_to B _ K6.out (by first | omega | (simp only [List.length_cons, List.length_nil]; omega)) _).mono ?_); rintro e' w4 ⟨rfl, hb'⟩; have hb4 := Below.next hb3 hb'; clear hb')))
      all_goals go_ret3
      all_goals exact ⟨ret_parse HP.out rfl, by assumption⟩
  | some n =>
    have hn := Num.nat?_lt k5
    cases oC with
    | none =>
      cases c
      · simp only [Bool.false_eq_true, if_false, if_true, eq_self_iff_true] at k4
        first | (have k4 := k4.symm; subst k4; have _u := B) | subst k4
        go_enter Tryd.func38, Tryd.ntmps38
        go_wp2_with (first | (go_at_call 49; refine (cutPrefix_to s r _ H1.out H2.out _).mono ?_; rintro e' w1 ⟨rfl, hb⟩) | (go_at_call 50; refine (cut_to r A B _ K1.out K2.out K3.out (by omega) _).mono ?_; rintro e' w2 ⟨rfl, hb'⟩; have hb2 := Below.next hb hb'; clear hb') | (go_at_call 51; ((with_reducible refine (natural_to A _ K5.out (by omega) _).mono ?_); rintro e' w3 ⟨rfl, hb'⟩; have hb3 := Below.next hb2 hb'; clear hb')) | (go_at_call 51; ((with_reducible refine (natural_to [49] _ K6.out (by first | omega | (simp only [List.length_cons, List.length_nil]; omega)) _).mono ?_); rintro e' w4 ⟨rfl, hb'⟩; have hb4 := Below.next hb3 hb'; clear hb')))
        all_goals go_ret3
        all_goals exact ⟨ret_parse HP.out rfl, by assumption⟩
      · simp only [Bool.false_eq_true, if_false, if_true, eq_self_iff_true] at k4
        first | (have k4 := k4.symm; subst k4; have _u := B) | subst k4
        go_enter Tryd.func38, Tryd.ntmps38
        go_wp2_with (first | (go_at_call 49; refine (cutPrefix_to s r _ H1.out H2.out _).mono ?_; rintro e' w1 ⟨rfl, hb⟩) | (go_at_call 50; refine (cut_to r A B _ K1.out K2.out K3.out (by omega) _).mono ?_; rintro e' w2 ⟨rfl, hb'⟩; have hb2 := Below.next hb hb'; clear hb') | (go_at_call 51; ((with_reducible refine (natural_to A _ K5.out (by omega) _).mono ?_); rintro e' w3 ⟨rfl, hb'⟩; have hb3 := Below.next hb2 hb'; clear hb')) | (go_at_call 51; ((with_reducible refine (natural_to B _ K6.out (by first | omega | (simp only [List.length_cons, List.length_nil]; omega)) _).mono ?_); rintro e' w4 ⟨rfl, hb'⟩; have hb4 := Below.next hb3 hb'; clear hb')))
        all_goals go_ret3
        all_goals exact ⟨ret_parse HP.out rfl, by assumption⟩
    | some d =>
      have hd := Num.nat?_lt k6
      cases neg with
      | true =>
        obtain ⟨x, y, z, hm⟩ : ∃ x y z, Num.mk (-(n : Int)) d = (x, y, z) := ⟨_, _, _, rfl⟩
        have HM := Lib.hid hm
        have HF := Lib.hid (show Num.parse s.data.toList = (x, y, decide (z = 0)) by rw [HP.out]; simp [hm])
        clear hm
        cases c
        · simp only [Bool.false_eq_true, if_false, if_true, eq_self_iff_true] at k4
          first | (have k4 := k4.symm; subst k4; have _u := B) | subst k4
          go_enter Tryd.func38, Tryd.ntmps38
          go_wp2_with (first | (go_at_call 49; refine (cutPrefix_to s r _ H1.out H2.out _).mono ?_; rintro e' w1 ⟨rfl, hb⟩) | (go_at_call 50; refine (cut_to r A B _ K1.out K2.out K3.out (by omega) _).mono ?_; rintro e' w2 ⟨rfl, hb'⟩; have hb2 := Below.next hb hb'; clear hb') | (go_at_call 51; ((with_reducible refine (natural_to A _ K5.out (by omega) _).mono ?_); rintro e' w3 ⟨rfl, hb'⟩; have hb3 := Below.next hb2 hb'; clear hb')) | (go_at_call 51; ((with_reducible refine (natural_to [49] _ K6.out (by first | omega | (simp only [List.length_cons, List.length_nil]; omega)) _).mono ?_); rintro e' w4 ⟨rfl, hb'⟩; have hb4 := Below.next hb3 hb'; clear hb')) | (go_at_call 52; refine (make_to (-(n : Int)) d x y z HM.out (by omega) (by omega) (by omega) (by omega) _).mono ?_; rintro e' w5 ⟨rfl, k, rfl⟩))
          go_ret3
          exact ⟨ret_parse HF.out (by first | rfl | simp), Below.drewN hb4 _⟩
        · simp only [Bool.false_eq_true, if_false, if_true, eq_self_iff_true] at k4
          first | (have k4 := k4.symm; subst k4; have _u := B) | subst k4
          go_enter Tryd.func38, Tryd.ntmps38
          go_wp2_with (first | (go_at_call 49; refine (cutPrefix_to s r _ H1.out H2.out _).mono ?_; rintro e' w1 ⟨rfl, hb⟩) | (go_at_call 50; refine (cut_to r A B _ K1.out K2.out K3.out (by omega) _).mono ?_; rintro e' w2 ⟨rfl, hb'⟩; have hb2 := Below.next hb hb'; clear hb') | (go_at_call 51; ((with_reducible refine (natural_to A _ K5.out (by omega) _).mono ?_); rintro e' w3 ⟨rfl, hb'⟩; have hb3 := Below.next hb2 hb'; clear hb')) | (go_at_call 51; ((with_reducible refine (natural_to B _ K6.out (by first | omega | (simp only [List.length_cons, List.length_nil]; omega)) _).mono ?_); rintro e' w4 ⟨rfl, hb'⟩; have hb4 := Below.next hb3 hb'; clear hb')) | (go_at_call 52; refine (make_to (-(n : Int)) d x y z HM.out (by omega) (by omega) (by omega) (by omega) _).mono ?_; rintro e' w5 ⟨rfl, k, rfl⟩))
          go_ret3
          exact ⟨ret_parse HF.out (by first | rfl | simp), Below.drewN hb4 _⟩
      | false =>
        obtain ⟨x, y, z, hm⟩ : ∃ x y z, Num.mk (n : Int) d = (x, y, z) := ⟨_, _, _, rfl⟩
        have HM := Lib.hid hm
        have HF := Lib.hid (show Num.parse s.data.toList = (x, y, decide (z = 0)) by rw [HP.out]; simp [hm])
        clear hm
        cases c
        · simp only [Bool.false_eq_true, if_false, if_true, eq_self_iff_true] at k4
          first | (have k4 := k4.symm; subst k4; have _u := B) | subst k4
          go_enter Tryd.func38, Tryd.ntmps38
          go_wp2_with (first | (go_at_call 49; refine (cutPrefix_to s r _ H1.out H2.out _).mono ?_; rintro e' w1 ⟨rfl, hb⟩) | (go_at_call 50; refine (cut_to r A B _ K1.out K2.out K3.out (by omega) _).mono ?_; rintro e' w2 ⟨rfl, hb'⟩; have hb2 := Below.next hb hb'; clear hb') | (go_at_call 51; ((with_reducible refine (natural_to A _ K5.out (by omega) _).mono ?_); rintro e' w3 ⟨rfl, hb'⟩; have hb3 := Below.next hb2 hb'; clear hb')) | (go_at_call 51; ((with_reducible refine (natural_to [49] _ K6.out (by first | omega | (simp only [List.length_cons, List.length_nil]; omega)) _).mono ?_); rintro e' w4 ⟨rfl, hb'⟩; have hb4 := Below.next hb3 hb'; clear hb')) | (go_at_call 52; refine (make_to (n : Int) d x y z HM.out (by omega) (by omega) (by omega) (by omega) _).mono ?_; rintro e' w5 ⟨rfl, k, rfl⟩))
          go_ret3
          exact ⟨ret_parse HF.out (by first | rfl | simp), Below.drewN hb4 _⟩
        · simp only [Bool.false_eq_true, if_false, if_true, eq_self_iff_true] at k4
          first | (have k4 := k4.symm; subst k4; have _u := B) | subst k4
          go_enter Tryd.func38, Tryd.ntmps38
          go_wp2_with (first | (go_at_call 49; refine (cutPrefix_to s r _ H1.out H2.out _).mono ?_; rintro e' w1 ⟨rfl, hb⟩) | (go_at_call 50; refine (cut_to r A B _ K1.out K2.out K3.out (by omega) _).mono ?_; rintro e' w2 ⟨rfl, hb'⟩; have hb2 := Below.next hb hb'; clear hb') | (go_at_call 51; ((with_reducible refine (natural_to A _ K5.out (by omega) _).mono ?_); rintro e' w3 ⟨rfl, hb'⟩; have hb3 := Below.next hb2 hb'; clear hb')) | (go_at_call 51; ((with_reducible refine (natural_to B _ K6.out (by first | omega | (simp only [List.length_cons, List.length_nil]; omega)) _).mono ?_); rintro e' w4 ⟨rfl, hb'⟩; have hb4 := Below.next hb3 hb'; clear hb')) | (go_at_call 52; refine (make_to (n : Int) d x y z HM.out (by omega) (by omega) (by omega) (by omega) _).mono ?_; rintro e' w5 ⟨rfl, k, rfl⟩))
          go_ret3
          exact ⟨ret_parse HF.out (by first | rfl | simp), Below.drewN hb4 _⟩
end Go.Proofs.YtlpkpkcfgchngaaDoor

/-
  A right datum's text says what it is: read back it is the datum.
-/
import Derived.Test.YtlpkpkcfgchngaaDoorDatLaw
namespace Go.Proofs.YtlpkpkcfgchngaaDoor
namespace Dat
open Go

def emptyB : ByteArray := ⟨#[]⟩

mutual
/-- Reading back: a datum and what stands behind it. -/
def dec : Nat → List UInt8 → Option (Dat × List UInt8)
  | 0, _ => none
  | _ + 1, [] => none
  | f + 1, b :: r =>
    if b = 35 then
      match r with
      | [] => none
      | c :: r =>
        if c = 116 then some (mk 1 1 0 emptyB [], r)
        else if c = 102 then some (mk 1 0 0 emptyB [], r)
        else if c = 118 then some (mk 5 0 0 emptyB [], r)
        else (decV f r true).map fun p => (mk 7 0 0 emptyB p.1, p.2)
    else if b = 34 then some (mk 3 0 0 ⟨(r.takeWhile (· != 34)).toArray⟩ [], (r.dropWhile (· != 34)).tail)
    else if b = 40 then
      if r.head? = some 41 then some (null, r.tail)
      else (dec f r).bind fun p => (decT f p.2).map fun q => (pair p.1 q.1, q.2)
    else if (Num.parse ((b :: r).takeWhile nameByte)).2.2 then
      some (mk 0 (Num.parse ((b :: r).takeWhile nameByte)).1 (Num.parse ((b :: r).takeWhile nameByte)).2.1 emptyB [], (b :: r).dropWhile nameByte)
    else some (mk 2 0 0 ⟨((b :: r).takeWhile nameByte).toArray⟩ [], (b :: r).dropWhile nameByte)
/-- .. the rest of a list. -/
def decT : Nat → List UInt8 → Option (Dat × List UInt8)
  | 0, _ => none
  | _ + 1, [] => none
  | f + 1, b :: r =>
    if b = 41 then some (null, r)
    else if r.head? = some 46 then (dec f r.tail.tail).map fun p => (p.1, p.2.tail)
    else (dec f r).bind fun p => (decT f p.2).map fun q => (pair p.1 q.1, q.2)
/-- .. the parts of a Vec. -/
def decV : Nat → List UInt8 → Bool → Option (List Dat × List UInt8)
  | 0, _, _ => none
  | f + 1, r, first =>
    if r.head? = some 41 then some ([], r.tail)
    else (dec f (if first then r else r.tail)).bind fun p => (decV f p.2 false).map fun q => (p.1 :: q.1, q.2)
end

/-- What may stand behind a datum. -/
def delim (r : List UInt8) : Prop := r = [] ∨ ∃ t, r = 32 :: t ∨ r = 41 :: t

theorem takeWhile_delim (p : UInt8 → Bool) {l r : List UInt8} (h : ∀ b ∈ l, p b = true) (hr : r = [] ∨ ∃ c t, r = c :: t ∧ p c = false) :
    (l ++ r).takeWhile p = l ∧ (l ++ r).dropWhile p = r := by
  induction l with
  | nil =>
    rcases hr with rfl | ⟨c, t, rfl, hc⟩
    · simp
    · simp [List.takeWhile_cons, List.dropWhile_cons, hc]
  | cons c l ih =>
    have hc := h c (by simp)
    have := ih (fun b hb => h b (by simp [hb]))
    simp [List.takeWhile_cons, List.dropWhile_cons, hc, this]

theorem delim_name {r : List UInt8} (h : delim r) : r = [] ∨ ∃ c t, r = c :: t ∧ nameByte c = false := by
  rcases h with h | ⟨t, h | h⟩
  · exact .inl h
  · exact .inr ⟨_, _, h, by decide⟩
  · exact .inr ⟨_, _, h, by decide⟩

theorem digit_name {b : UInt8} (h : Num.isDigit b = true) : nameByte b = true := by
  simp only [Num.isDigit, Bool.and_eq_true, decide_eq_true_eq] at h
  have : ∀ k : Fin 58, 48 ≤ k.val → nameByte (UInt8.ofNat k.val) = true := by decide
  have e : b = UInt8.ofNat b.toNat := by simp
  rw [e]
  exact this ⟨b.toNat, by omega⟩ h.1

theorem itoa_name (n : Int) : ∀ b ∈ Lib.itoa n, nameByte b = true := by
  intro b hb
  unfold Lib.itoa at hb
  split at hb
  · rcases List.mem_cons.1 hb with rfl | hb
    · decide
    · exact digit_name (Num.decDigits_digit _ b hb)
  · exact digit_name (Num.decDigits_digit _ b hb)

theorem itoa_ne (n : Int) : Lib.itoa n ≠ [] := by
  unfold Lib.itoa
  split
  · simp
  · exact Num.decDigits_ne _

theorem text_name {n d : Int} (h : Num.right n d = true) : (∀ b ∈ Num.text n d, nameByte b = true) ∧ Num.text n d ≠ [] := by
  unfold Num.text
  rw [if_pos h]
  constructor
  · intro b hb
    rcases List.mem_append.1 hb with hb | hb
    · exact itoa_name _ b hb
    · split at hb
      · cases hb
      · rcases List.mem_cons.1 hb with rfl | hb
        · decide
        · exact itoa_name _ b hb
  · simp [itoa_ne]

/-- The first byte of a datum's text. -/
def opens (b : UInt8) : Prop := b ≠ 46 ∧ b ≠ 41

theorem name_opens {b : UInt8} (h : nameByte b = true) : b ≠ 46 ∧ b ≠ 41 ∧ b ≠ 35 ∧ b ≠ 34 ∧ b ≠ 40 := by
  refine ⟨?_, ?_, ?_, ?_, ?_⟩ <;> rintro rfl <;> revert h <;> decide

theorem empty_of {s : ByteArray} (h : s.data.toList.isEmpty = true) : s = emptyB := by
  obtain ⟨⟨l⟩⟩ := s
  simp only [List.isEmpty_iff] at h
  subst h; rfl

theorem of_toList (s : ByteArray) : (⟨s.data.toList.toArray⟩ : ByteArray) = s := by
  obtain ⟨⟨l⟩⟩ := s; rfl

/-- What 'head' says, kind by kind. -/
theorem head_cases {k n d : Int} {s : ByteArray} {l : List Dat} (h : head k n d s.data.toList l.length = true) :
    (k = 0 ∧ Num.right n d = true ∧ s = emptyB ∧ l = []) ∨ (k = 1 ∧ d = 0 ∧ (n = 0 ∨ n = 1) ∧ s = emptyB ∧ l = []) ∨ (k = 2 ∧ d = 0 ∧ n = 0 ∧ name s.data.toList = true ∧ l = []) ∨
    (k = 3 ∧ d = 0 ∧ n = 0 ∧ s.data.toList.all strByte = true ∧ l = []) ∨ (k = 4 ∧ d = 0 ∧ n = 0 ∧ s = emptyB ∧ l = []) ∨ (k = 5 ∧ d = 0 ∧ n = 0 ∧ s = emptyB ∧ l = []) ∨
    (k = 6 ∧ d = 0 ∧ n = 0 ∧ s = emptyB ∧ ∃ a b, l = [a, b]) ∨ (k = 7 ∧ d = 0 ∧ n = 0 ∧ s = emptyB) := by
  have hl : ∀ {l : List Dat}, l.length = 0 → l = [] := fun h => List.length_eq_zero_iff.1 h
  unfold head at h
  split at h
  · simp only [Bool.and_eq_true, decide_eq_true_eq] at h
    exact .inl ⟨‹_›, h.1, empty_of h.2.1, hl h.2.2⟩
  split at h
  · simp only [Bool.and_eq_true, decide_eq_true_eq] at h
    exact .inr (.inl ⟨‹_›, h.1, h.2.1, empty_of h.2.2.1, hl h.2.2.2⟩)
  split at h
  · simp only [Bool.and_eq_true, decide_eq_true_eq] at h
    exact .inr (.inr (.inl ⟨‹_›, h.1, h.2.1, h.2.2.1, hl h.2.2.2⟩))
  split at h
  · simp only [Bool.and_eq_true, decide_eq_true_eq] at h
    exact .inr (.inr (.inr (.inl ⟨‹_›, h.1, h.2.1, h.2.2.1, hl h.2.2.2⟩)))
  split at h
  · rename_i hk
    simp only [Bool.and_eq_true, decide_eq_true_eq] at h
    rcases hk with hk | hk
    · exact .inr (.inr (.inr (.inr (.inl ⟨hk, h.1, h.2.1, empty_of h.2.2.1, hl h.2.2.2⟩))))
    · exact .inr (.inr (.inr (.inr (.inr (.inl ⟨hk, h.1, h.2.1, empty_of h.2.2.1, hl h.2.2.2⟩)))))
  split at h
  · simp only [Bool.and_eq_true, decide_eq_true_eq] at h
    refine .inr (.inr (.inr (.inr (.inr (.inr (.inl ⟨‹_›, h.1, h.2.1, empty_of h.2.2.1, ?_⟩))))))
    match l, h.2.2.2 with
    | [a, b], _ => exact ⟨a, b, rfl⟩
  split at h
  · simp only [Bool.and_eq_true, decide_eq_true_eq] at h
    exact .inr (.inr (.inr (.inr (.inr (.inr (.inr ⟨‹_›, h.1, h.2.1, empty_of h.2.2⟩))))))
  · cases h

theorem name_iff {l : List UInt8} (h : name l = true) : (∀ b ∈ l, nameByte b = true) ∧ l ≠ [] ∧ (Num.parse l).2.2 = false := by
  simp only [name, Bool.and_eq_true, decide_eq_true_eq, List.all_eq_true, Bool.not_eq_true'] at h
  refine ⟨h.2.2.1, ?_, h.2.2.2⟩
  rintro rfl; simp at h

/-- A datum's text begins so. -/
theorem text_opens : ∀ x : Dat, ∀ deep, right x deep = true → ∃ c t, text x false = c :: t ∧ c ≠ 46 ∧ c ≠ 41 := by
  intro x deep h
  obtain ⟨k, n, d, s, l⟩ := x
  simp only [right, Bool.and_eq_true, decide_eq_true_eq] at h
  rcases head_cases h.2.1 with ⟨rfl, h1, rfl, rfl⟩ | ⟨rfl, rfl, h1, rfl, rfl⟩ | ⟨rfl, rfl, rfl, h1, rfl⟩ | ⟨rfl, rfl, rfl, h1, rfl⟩ | ⟨rfl, rfl, rfl, rfl, rfl⟩ | ⟨rfl, rfl, rfl, rfl, rfl⟩ | ⟨rfl, rfl, rfl, rfl, a, b, rfl⟩ | ⟨rfl, rfl, rfl, rfl⟩
  · obtain ⟨ha, hne⟩ := text_name h1
    cases ht : Num.text n d with
    | nil => exact absurd ht hne
    | cons c t =>
      have := name_opens (ha c (by rw [ht]; simp))
      exact ⟨c, t, by simp [text, textA, ht], this.1, this.2.1⟩
  · rcases h1 with rfl | rfl
    · exact ⟨35, [102], by simp [text, textA], by decide, by decide⟩
    · exact ⟨35, [116], by simp [text, textA], by decide, by decide⟩
  · obtain ⟨ha, hne, _⟩ := name_iff h1
    cases ht : s.data.toList with
    | nil => exact absurd ht hne
    | cons c t =>
      have := name_opens (ha c (by rw [ht]; simp))
      exact ⟨c, t, by simp [text, textA, ht], this.1, this.2.1⟩
  · exact ⟨34, s.data.toList ++ [34], by simp [text, textA], by decide, by decide⟩
  · exact ⟨40, [41], by simp [text, textA], by decide, by decide⟩
  · exact ⟨35, [118], by simp [text, textA], by decide, by decide⟩
  · exact ⟨40, textP [a, b] ++ [41], by simp [text], by decide, by decide⟩
  · exact ⟨35, 40 :: (textV l true ++ [41]), by simp [text, textA], by decide, by decide⟩

theorem text_tail : ∀ x : Dat, text x true = [] ∨ ∃ t, text x true = 32 :: t := by
  intro x
  obtain ⟨k, n, d, s, l⟩ := x
  simp only [text]
  split
  · right; exact ⟨_, rfl⟩
  · simp only [if_true]
    split
    · left; rfl
    · right; exact ⟨_, rfl⟩

theorem delim_tail (x : Dat) (r : List UInt8) : delim (text x true ++ 41 :: r) := by
  rcases text_tail x with h | ⟨t, h⟩
  · rw [h]; exact .inr ⟨r, .inr rfl⟩
  · rw [h]; exact .inr ⟨_, .inl rfl⟩

theorem dec_both : ∀ x : Dat, ∀ deep, right x deep = true →
    (∀ r, delim r → ∃ f0, ∀ f, f0 ≤ f → dec f (text x false ++ r) = some (x, r)) ∧ (∀ r, ∃ f0, ∀ f, f0 ≤ f → decT f (text x true ++ 41 :: r) = some (x, r)) := by
  intro x
  induction x using ind with
  | h k n d s l ih =>
    intro deep h
    have hrt := h
    simp only [right, Bool.and_eq_true, decide_eq_true_eq] at h
    have hparts := (rightL_iff _ _).1 h.2.2
    -- what is no Pair and no Null: the tail out of the datum itself
    have tl : k ≠ 6 → k ≠ 4 → (∀ r, delim r → ∃ f0, ∀ f, f0 ≤ f → dec f (text (mk k n d s l) false ++ r) = some (mk k n d s l, r)) →
        ∀ r, ∃ f0, ∀ f, f0 ≤ f → decT f (text (mk k n d s l) true ++ 41 :: r) = some (mk k n d s l, r) := by
      intro h6 h4 hA r
      obtain ⟨f0, hf⟩ := hA (41 :: r) (.inr ⟨r, .inr rfl⟩)
      refine ⟨f0 + 1, fun f hle => ?_⟩
      obtain ⟨f, rfl⟩ : ∃ g, f = g + 1 := ⟨f - 1, by omega⟩
      have e : text (mk k n d s l) true = 32 :: 46 :: 32 :: text (mk k n d s l) false := by
        simp [text, h6, h4]
      rw [e]
      simp only [List.cons_append, decT, List.head?_cons, List.tail_cons]
      rw [if_neg (by decide), if_pos trivial, hf f (by omega)]
      rfl
    rcases head_cases h.2.1 with ⟨rfl, h1, rfl, rfl⟩ | ⟨rfl, rfl, h1, rfl, rfl⟩ | ⟨rfl, rfl, rfl, h1, rfl⟩ | ⟨rfl, rfl, rfl, h1, rfl⟩ | ⟨rfl, rfl, rfl, rfl, rfl⟩ | ⟨rfl, rfl, rfl, rfl, rfl⟩ | ⟨rfl, rfl, rfl, rfl, a, b, rfl⟩ | ⟨rfl, rfl, rfl, rfl⟩
    · -- a number
      have A : ∀ r, delim r → ∃ f0, ∀ f, f0 ≤ f → dec f (text (mk 0 n d emptyB []) false ++ r) = some (mk 0 n d emptyB [], r) := by
        intro r hr
        refine ⟨1, fun f hle => ?_⟩
        obtain ⟨f, rfl⟩ : ∃ g, f = g + 1 := ⟨f - 1, by omega⟩
        obtain ⟨ha, hne⟩ := text_name h1
        have hp := Num.parse_text h1
        have e : text (mk 0 n d emptyB []) false = Num.text n d := by simp [text, textA]
        rw [e]
        have tw := takeWhile_delim nameByte ha (delim_name hr)
        cases ht : Num.text n d with
        | nil => exact absurd ht hne
        | cons c t =>
          have := name_opens (ha c (by rw [ht]; simp))
          rw [ht] at tw hp
          simp only [List.cons_append] at tw ⊢
          simp only [dec]
          rw [if_neg this.2.2.1, if_neg this.2.2.2.1, if_neg this.2.2.2.2, tw.1, tw.2, hp]
          simp
      exact ⟨A, tl (by decide) (by decide) A⟩
    · -- #t, #f
      have A : ∀ r, delim r → ∃ f0, ∀ f, f0 ≤ f → dec f (text (mk 1 n 0 emptyB []) false ++ r) = some (mk 1 n 0 emptyB [], r) := by
        intro r hr
        refine ⟨1, fun f hle => ?_⟩
        obtain ⟨f, rfl⟩ : ∃ g, f = g + 1 := ⟨f - 1, by omega⟩
        rcases h1 with rfl | rfl
        · have e : text (mk 1 0 0 emptyB []) false = [35, 102] := by simp [text, textA]
          rw [e]; simp [dec]
        · have e : text (mk 1 1 0 emptyB []) false = [35, 116] := by simp [text, textA]
          rw [e]; simp [dec]
      exact ⟨A, tl (by decide) (by decide) A⟩
    · -- a name
      have A : ∀ r, delim r → ∃ f0, ∀ f, f0 ≤ f → dec f (text (mk 2 0 0 s []) false ++ r) = some (mk 2 0 0 s [], r) := by
        intro r hr
        refine ⟨1, fun f hle => ?_⟩
        obtain ⟨f, rfl⟩ : ∃ g, f = g + 1 := ⟨f - 1, by omega⟩
        obtain ⟨ha, hne, hp⟩ := name_iff h1
        have e : text (mk 2 0 0 s []) false = s.data.toList := by simp [text, textA]
        rw [e]
        have tw := takeWhile_delim nameByte ha (delim_name hr)
        have hs := of_toList s
        cases ht : s.data.toList with
        | nil => exact absurd ht hne
        | cons c t =>
          have := name_opens (ha c (by rw [ht]; simp))
          rw [ht] at tw hp hs
          simp only [List.cons_append] at tw ⊢
          simp only [dec]
          rw [if_neg this.2.2.1, if_neg this.2.2.2.1, if_neg this.2.2.2.2, tw.1, tw.2, hp, hs]
          simp
      exact ⟨A, tl (by decide) (by decide) A⟩
    · -- a string
      have A : ∀ r, delim r → ∃ f0, ∀ f, f0 ≤ f → dec f (text (mk 3 0 0 s []) false ++ r) = some (mk 3 0 0 s [], r) := by
        intro r hr
        refine ⟨1, fun f hle => ?_⟩
        obtain ⟨f, rfl⟩ : ∃ g, f = g + 1 := ⟨f - 1, by omega⟩
        have e : text (mk 3 0 0 s []) false = 34 :: (s.data.toList ++ [34]) := by simp [text, textA]
        have ha : ∀ b ∈ s.data.toList, (b != 34) = true := by
          intro b hb
          have := List.all_eq_true.1 h1 b hb
          simp only [strByte, Bool.and_eq_true, decide_eq_true_eq] at this
          simp only [bne_iff_ne, ne_eq]
          rintro rfl
          exact absurd rfl this.2.2.1
        have tw := takeWhile_delim (· != 34) ha (r := 34 :: r) (.inr ⟨34, r, rfl, by decide⟩)
        rw [e]
        have e2 : 34 :: (s.data.toList ++ [34]) ++ r = 34 :: (s.data.toList ++ 34 :: r) := by simp
        rw [e2]
        simp only [dec]
        rw [if_neg (by decide), if_pos trivial, tw.1, tw.2, of_toList]
        rfl
      exact ⟨A, tl (by decide) (by decide) A⟩
    · -- Null
      constructor
      · intro r hr
        refine ⟨1, fun f hle => ?_⟩
        obtain ⟨f, rfl⟩ : ∃ g, f = g + 1 := ⟨f - 1, by omega⟩
        have e : text (mk 4 0 0 emptyB []) false = [40, 41] := by simp [text, textA]
        rw [e]; simp [dec, null, emptyB]
      · intro r
        refine ⟨1, fun f hle => ?_⟩
        obtain ⟨f, rfl⟩ : ∃ g, f = g + 1 := ⟨f - 1, by omega⟩
        have e : text (mk 4 0 0 emptyB []) true = [] := by simp [text]
        rw [e]; simp [decT, null, emptyB]
    · -- Void
      have A : ∀ r, delim r → ∃ f0, ∀ f, f0 ≤ f → dec f (text (mk 5 0 0 emptyB []) false ++ r) = some (mk 5 0 0 emptyB [], r) := by
        intro r hr
        refine ⟨1, fun f hle => ?_⟩
        obtain ⟨f, rfl⟩ : ∃ g, f = g + 1 := ⟨f - 1, by omega⟩
        have e : text (mk 5 0 0 emptyB []) false = [35, 118] := by simp [text, textA]
        rw [e]; simp [dec]
      exact ⟨A, tl (by decide) (by decide) A⟩
    · -- a Pair
      have ra := hparts a (by simp)
      have rb := hparts b (by simp)
      have iha := (ih a (by simp) _ ra).1
      have ihb := (ih b (by simp) _ rb).2
      obtain ⟨c, t, hc, hc1, hc2⟩ := text_opens a _ ra
      constructor
      · intro r hr
        obtain ⟨f1, hf1⟩ := iha (text b true ++ 41 :: r) (delim_tail b r)
        obtain ⟨f2, hf2⟩ := ihb r
        refine ⟨f1 + f2 + 1, fun f hle => ?_⟩
        obtain ⟨f, rfl⟩ : ∃ g, f = g + 1 := ⟨f - 1, by omega⟩
        have e : text (mk 6 0 0 emptyB [a, b]) false ++ r = 40 :: (text a false ++ (text b true ++ 41 :: r)) := by simp [text, textP]
        rw [e]
        simp only [dec]
        rw [if_neg (by decide), if_neg (by decide), if_pos trivial, if_neg (by rw [hc]; simp [hc2]), hf1 f (by omega)]
        simp only [Option.bind_some]
        rw [hf2 f (by omega)]
        rfl
      · intro r
        obtain ⟨f1, hf1⟩ := iha (text b true ++ 41 :: r) (delim_tail b r)
        obtain ⟨f2, hf2⟩ := ihb r
        refine ⟨f1 + f2 + 1, fun f hle => ?_⟩
        obtain ⟨f, rfl⟩ : ∃ g, f = g + 1 := ⟨f - 1, by omega⟩
        have e : text (mk 6 0 0 emptyB [a, b]) true ++ 41 :: r = 32 :: (text a false ++ (text b true ++ 41 :: r)) := by simp [text, textP]
        rw [e]
        simp only [decT]
        rw [if_neg (by decide), if_neg (by rw [hc]; simp [hc1]), hf1 f (by omega)]
        simp only [Option.bind_some]
        rw [hf2 f (by omega)]
        rfl
    · -- a Vec
      have V : ∀ l : List Dat, (∀ x ∈ l, ∀ r, delim r → ∃ f0, ∀ f, f0 ≤ f → dec f (text x false ++ r) = some (x, r)) → (∀ x ∈ l, ∃ c t, text x false = c :: t ∧ c ≠ 46 ∧ c ≠ 41) →
          ∀ first r, ∃ f0, ∀ f, f0 ≤ f → decV f (textV l first ++ 41 :: r) first = some (l, r) := by
        intro l
        induction l with
        | nil =>
          intro _ _ first r
          refine ⟨1, fun f hle => ?_⟩
          obtain ⟨f, rfl⟩ : ∃ g, f = g + 1 := ⟨f - 1, by omega⟩
          simp [textV, decV]
        | cons x l ihl =>
          intro hA hO first r
          have hd : delim (textV l false ++ 41 :: r) := by
            cases l with
            | nil => exact .inr ⟨r, .inr (by simp [textV])⟩
            | cons y l => exact .inr ⟨text y false ++ textV l false ++ 41 :: r, .inl (by simp [textV])⟩
          obtain ⟨f1, hf1⟩ := hA x (by simp) (textV l false ++ 41 :: r) hd
          obtain ⟨f2, hf2⟩ := ihl (fun y hy => hA y (by simp [hy])) (fun y hy => hO y (by simp [hy])) false r
          obtain ⟨c, t, hc, _, hc2⟩ := hO x (by simp)
          refine ⟨f1 + f2 + 1, fun f hle => ?_⟩
          obtain ⟨f, rfl⟩ : ∃ g, f = g + 1 := ⟨f - 1, by omega⟩
          have e : (if first = true then textV (x :: l) first ++ 41 :: r else (textV (x :: l) first ++ 41 :: r).tail) = text x false ++ (textV l false ++ 41 :: r) := by
            cases first <;> simp [textV]
          have e2 : (textV (x :: l) first ++ 41 :: r).head? ≠ some 41 := by
            cases first <;> simp [textV, hc, hc2]
          simp only [decV]
          rw [if_neg e2, e, hf1 f (by omega)]
          simp only [Option.bind_some]
          rw [hf2 f (by omega)]
          rfl
      have A : ∀ r, delim r → ∃ f0, ∀ f, f0 ≤ f → dec f (text (mk 7 0 0 emptyB l) false ++ r) = some (mk 7 0 0 emptyB l, r) := by
        intro r hr
        obtain ⟨f1, hf1⟩ := V l (fun x hx => (ih x hx _ (hparts x hx)).1) (fun x hx => text_opens x _ (hparts x hx)) true r
        refine ⟨f1 + 1, fun f hle => ?_⟩
        obtain ⟨f, rfl⟩ : ∃ g, f = g + 1 := ⟨f - 1, by omega⟩
        have e : text (mk 7 0 0 emptyB l) false ++ r = 35 :: 40 :: (textV l true ++ 41 :: r) := by simp [text, textA]
        rw [e]
        simp only [dec]
        rw [if_pos trivial, if_neg (by decide), if_neg (by decide), if_neg (by decide), hf1 f (by omega)]
        rfl
      exact ⟨A, tl (by decide) (by decide) A⟩

/-- Two right data of one text are one. -/
theorem text_inj {x y : Dat} {a b : Nat} (hx : right x a = true) (hy : right y b = true) (h : text x false = text y false) : x = y := by
  obtain ⟨f1, h1⟩ := (dec_both x a hx).1 [] (.inl rfl)
  obtain ⟨f2, h2⟩ := (dec_both y b hy).1 [] (.inl rfl)
  have e1 := h1 (f1 + f2) (by omega)
  have e2 := h2 (f1 + f2) (by omega)
  rw [h, e2] at e1
  simpa using e1.symm

theorem text_ne {x : Dat} {a : Nat} (hx : right x a = true) : text x false ≠ [] := by
  obtain ⟨c, t, h, _⟩ := text_opens x a hx
  rw [h]; simp

end Dat
end Go.Proofs.YtlpkpkcfgchngaaDoor

/-
  Small things put right (chapter 18), in plain Lean: to all that stays one comes; none moves a register to itself.
-/
import Derived.Test.YtdlhocghiaghfaaGreatDoorUnt
namespace Go.Proofs.YtdlhocghiaghfaaGreatDoor
namespace Peep
/-- Where one goes on. -/
def succs (x : Ins) (k : Nat) : List Nat := (if x.op ≠ 15 ∧ x.op < 19 then [k + 1] else []) ++ (if x.op = 15 then [x.a.toNat] else if x.op = 16 then [x.b.toNat] else [])
inductive Reach (code : List Ins) : Nat → Prop
  | zero : Reach code 0
  | step {k j : Nat} {x : Ins} : Reach code k → code[k]? = some x → j ∈ succs x k → Reach code j
/-- One stays within. -/
def Closed (code : List Ins) : Prop := 0 < code.length ∧ ∀ (k : Nat) (x : Ins), code[k]? = some x → ∀ j ∈ succs x k, j < code.length
theorem Reach.lt {code : List Ins} (h : Closed code) : ∀ {k : Nat}, Reach code k → k < code.length
  | _, .zero => h.1
  | _, .step _ hx hj => h.2 _ _ hx _ hj
/-- What is closed under going on holds all that one comes to. -/
theorem Reach.sub {code : List Ins} {S : Nat → Prop} (h0 : S 0) (hs : ∀ (k : Nat) (x : Ins), S k → code[k]? = some x → ∀ j ∈ succs x k, S j) : ∀ {k : Nat}, Reach code k → S k
  | _, .zero => h0
  | _, .step hk hx hj => hs _ _ (hk.sub h0 hs) hx _ hj

/-- The place to which a place leads. -/
def leads (code : List Ins) : Nat → List Nat → Nat → Nat
  | 0, _, p => p
  | f + 1, met, p => match code[p]? with
    | some x => if x.op = 15 ∧ ¬ x.a.toNat ∈ met then leads code f (x.a.toNat :: met) x.a.toNat else p
    | none => p
theorem leads_lt {code : List Ins} (h : Closed code) : ∀ (f : Nat) (met : List Nat) (p : Nat), p < code.length → leads code f met p < code.length
  | 0, _, _, hp => hp
  | f + 1, met, p, hp => by
    rw [leads]
    split
    · rename_i x hx
      split
      · rename_i hc
        exact leads_lt h f _ _ (h.2 p x hx _ (by simp [succs, hc.1]))
      · exact hp
    · exact hp

/-- Places told anew. -/
def mapT (g : Int → Int) (x : Ins) : Ins := if x.op = 15 then { x with a := g x.a } else if x.op = 16 then { x with b := g x.b } else x
theorem mapT_op (g : Int → Int) (x : Ins) : (mapT g x).op = x.op := by unfold mapT; split <;> (try split) <;> rfl
theorem succs_mapT {g : Int → Int} {x : Ins} {k k' : Nat} {j : Nat} (h : j ∈ succs x k) : (j = k + 1 ∧ x.op ≠ 15 ∧ x.op < 19 ∧ k' + 1 ∈ succs (mapT g x) k') ∨ (∃ t : Int, (x.op = 15 ∧ t = x.a ∨ x.op = 16 ∧ t = x.b) ∧ j = t.toNat ∧ (g t).toNat ∈ succs (mapT g x) k') := by
  simp only [succs, List.mem_append] at h
  rcases h with h | h
  · split at h
    · rename_i hc
      left
      refine ⟨by simpa using h, hc.1, hc.2, ?_⟩
      simp [succs, mapT_op, hc]
    · simp at h
  · split at h
    · rename_i hc
      right
      exact ⟨x.a, .inl ⟨hc, rfl⟩, by simpa using h, by simp [succs, mapT, hc]⟩
    · rename_i h15
      split at h
      · rename_i hc
        right
        exact ⟨x.b, .inr ⟨hc, rfl⟩, by simpa using h, by simp [succs, mapT, hc]⟩
      · simp at h
/-- The other way about. -/
theorem succs_of_mapT {g : Int → Int} {x : Ins} {k k' : Nat} {j : Nat} (h : j ∈ succs (mapT g x) k') : (j = k' + 1 ∧ k + 1 ∈ succs x k) ∨ (∃ t : Int, (x.op = 15 ∧ t = x.a ∨ x.op = 16 ∧ t = x.b) ∧ j = (g t).toNat ∧ t.toNat ∈ succs x k) := by
  simp only [succs, mapT_op, List.mem_append] at h
  rcases h with h | h
  · split at h
    · rename_i hc
      left
      exact ⟨by simpa using h, by simp [succs, hc]⟩
    · simp at h
  · split at h
    · rename_i hc
      right
      exact ⟨x.a, .inl ⟨hc, rfl⟩, by simpa [mapT, hc] using h, by simp [succs, hc]⟩
    · rename_i h15
      split at h
      · rename_i hc
        right
        exact ⟨x.b, .inr ⟨hc, rfl⟩, by simpa [mapT, hc] using h, by simp [succs, hc]⟩
      · simp at h

/-- How many stay ahead of a place. -/
def cnt (gone : Nat → Bool) : Nat → Nat
  | 0 => 0
  | k + 1 => cnt gone k + if gone k then 0 else 1
/-- What stays of the first so many. -/
def wo (gone : Nat → Bool) (g : Int → Int) (code : List Ins) : Nat → List Ins
  | 0 => []
  | j + 1 => wo gone g code j ++ (match code[j]? with | some x => if gone j then [] else [mapT g x] | none => [])
theorem cnt_le (gone : Nat → Bool) : ∀ k, cnt gone k ≤ k
  | 0 => Nat.le_refl _
  | k + 1 => by have := cnt_le gone k; rw [cnt]; split <;> omega
theorem wo_len {gone : Nat → Bool} {g : Int → Int} {code : List Ins} : ∀ {j : Nat}, j ≤ code.length → (wo gone g code j).length = cnt gone j
  | 0, _ => rfl
  | j + 1, h => by
    rw [wo, cnt, List.length_append, wo_len (j := j) (by omega), List.getElem?_eq_getElem (by omega)]
    cases hg : gone j <;> simp
theorem wo_get {gone : Nat → Bool} {g : Int → Int} {code : List Ins} {k : Nat} {x : Ins} (hg : gone k = false) (hx : code[k]? = some x) : ∀ {j : Nat}, k < j → j ≤ code.length → (wo gone g code j)[cnt gone k]? = some (mapT g x)
  | 0, h, _ => by omega
  | j + 1, h, hj => by
    rw [wo]
    by_cases hk : k = j
    · subst hk
      rw [List.getElem?_append_right (by rw [wo_len (by omega)]; exact Nat.le_refl _), wo_len (by omega), hx]
      simp [hg]
    · have := wo_get (g := g) hg hx (j := j) (by omega) (by omega)
      rw [List.getElem?_append_left (List.getElem?_eq_some_iff.1 this).1]
      exact this
theorem wo_ex {gone : Nat → Bool} {i : Nat} : ∀ {j : Nat}, i < cnt gone j → ∃ k, k < j ∧ gone k = false ∧ cnt gone k = i
  | 0, h => by simp [cnt] at h
  | j + 1, h => by
    rw [cnt] at h
    by_cases hi : i < cnt gone j
    · obtain ⟨k, h1, h2, h3⟩ := wo_ex hi
      exact ⟨k, by omega, h2, h3⟩
    · cases hgj : gone j with
      | true => rw [hgj] at h; simp at h; omega
      | false => rw [hgj] at h; simp at h; exact ⟨j, by omega, hgj, by omega⟩

/-- Instructions but those that are gone. -/
def without (gone : Nat → Bool) (code : List Ins) : List Ins := wo gone (fun t => (cnt gone t.toNat : Nat)) code code.length

/-- What is gone just goes on to the next. -/
structure Fit (gone : Nat → Bool) (code : List Ins) : Prop where
  closed : Closed code
  goes : ∀ (k : Nat) (x : Ins), Reach code k → gone k = true → code[k]? = some x → succs x k = [k + 1]
  kept : ∀ k, k < code.length → gone k = false → Reach code k

theorem Fit.reach {gone : Nat → Bool} {code : List Ins} (h : Fit gone code) : ∀ {k : Nat}, Reach code k → Reach (without gone code) (cnt gone k)
  | _, .zero => .zero
  | _, .step (k := k) (j := j) (x := x) hk hx hj => by
    have ih := h.reach hk
    have hlt := (List.getElem?_eq_some_iff.1 hx).1
    cases hg : gone k with
    | true =>
      rw [h.goes k x hk hg hx] at hj
      obtain rfl : j = k + 1 := by simpa using hj
      rw [cnt, hg]
      simpa using ih
    | false =>
      have hnew := wo_get (g := fun t => (cnt gone t.toNat : Nat)) hg hx hlt (Nat.le_refl _)
      rcases succs_mapT (g := fun t => (cnt gone t.toNat : Nat)) (k' := cnt gone k) hj with ⟨rfl, _, _, hm⟩ | ⟨t, _, rfl, hm⟩
      · rw [cnt, hg]
        exact .step ih hnew (by simpa using hm)
      · exact .step ih hnew (by simpa using hm)
theorem Fit.inside {gone : Nat → Bool} {code : List Ins} (h : Fit gone code) (n k : Nat) (_hn : code.length - k = n) (hk : Reach code k) : cnt gone k < (without gone code).length := by
    have hlt := hk.lt h.closed
    obtain ⟨x, hx⟩ : ∃ x, code[k]? = some x := ⟨_, List.getElem?_eq_getElem hlt⟩
    cases hg : gone k with
    | true =>
      have hs := h.goes k x hk hg hx
      have hk' : Reach code (k + 1) := .step hk hx (by rw [hs]; simp)
      have := hk'.lt h.closed
      have ih := h.inside (code.length - (k + 1)) (k + 1) rfl hk'
      rw [cnt, hg] at ih
      simpa using ih
    | false =>
      exact (List.getElem?_eq_some_iff.1 (wo_get (g := fun t => (cnt gone t.toNat : Nat)) hg hx hlt (Nat.le_refl _))).1
  termination_by n
  decreasing_by omega
theorem Fit.get {gone : Nat → Bool} {code : List Ins} {i : Nat} (hi : i < (without gone code).length) : ∃ k x, k < code.length ∧ gone k = false ∧ cnt gone k = i ∧ code[k]? = some x ∧ (without gone code)[i]? = some (mapT (fun t => (cnt gone t.toNat : Nat)) x) := by
  rw [without, wo_len (Nat.le_refl _)] at hi
  obtain ⟨k, h1, h2, h3⟩ := wo_ex hi
  refine ⟨k, code[k], h1, h2, h3, List.getElem?_eq_getElem h1, ?_⟩
  rw [← h3]
  exact wo_get h2 (List.getElem?_eq_getElem h1) h1 (Nat.le_refl _)
theorem Fit.new_closed {gone : Nat → Bool} {code : List Ins} (h : Fit gone code) : Closed (without gone code) := by
  refine ⟨by have := h.inside _ 0 rfl .zero; omega, fun i y hy j hj => ?_⟩
  obtain ⟨k, x, hk, hg, rfl, hx, hnew⟩ := Fit.get (List.getElem?_eq_some_iff.1 hy).1
  obtain rfl : mapT _ x = y := Option.some.inj (hnew.symm.trans hy)
  have hr := h.kept k hk hg
  rcases succs_of_mapT (k := k) hj with ⟨rfl, hm⟩ | ⟨t, _, rfl, hm⟩
  · have := h.inside _ (k + 1) rfl (.step hr hx hm)
    rw [cnt, hg] at this
    simpa using this
  · simpa using h.inside _ t.toNat rfl (.step hr hx hm)
/-- All that stays is come to. -/
theorem Fit.all {gone : Nat → Bool} {code : List Ins} (h : Fit gone code) : ∀ i, i < (without gone code).length → Reach (without gone code) i := by
  intro i hi
  obtain ⟨k, x, hk, hg, rfl, _, _⟩ := Fit.get hi
  exact h.reach (h.kept k hk hg)

/-- Needless ones go. -/
def gone1 (met : Nat → Bool) (l : List Ins) (k : Nat) : Bool := match l[k]? with | some x => !met k || (decide (x.op = 1) && decide (x.d = x.a)) | none => true
def gone2 (l : List Ins) (k : Nat) : Bool := match l[k]? with | some x => decide (x.op = 15) && (decide (x.a = k + 1) && decide ((k : Int) < (l.length : Int) - 1)) | none => true
/-- What leads to a place leads on. -/
def turned (code : List Ins) : List Ins := code.map (mapT fun t => (leads code code.length [t.toNat] t.toNat : Nat))
/-- Instructions without needless ones; met tells to which one can come. -/
def cleaned (met : Nat → Bool) (code : List Ins) : List Ins := without (gone2 (without (gone1 met (turned code)) (turned code))) (without (gone1 met (turned code)) (turned code))

theorem turned_closed {code : List Ins} (h : Closed code) : Closed (turned code) := by
  refine ⟨by simpa [turned] using h.1, fun k y hy j hj => ?_⟩
  simp only [turned, List.getElem?_map, Option.map_eq_some_iff] at hy
  obtain ⟨x, hx, rfl⟩ := hy
  rw [turned, List.length_map]
  rcases succs_of_mapT (k := k) hj with ⟨rfl, hm⟩ | ⟨t, _, rfl, hm⟩
  · exact h.2 k x hx _ hm
  · simp only [Int.toNat_natCast]
    exact leads_lt h _ _ _ (h.2 k x hx _ hm)
theorem fit1 {met : Nat → Bool} {l : List Ins} (h : Closed l) (hm : ∀ k, met k = true ↔ Reach l k) : Fit (gone1 met l) l := by
  refine ⟨h, fun k x hr hg hx => ?_, fun k hk hg => ?_⟩
  · simp only [gone1, hx, (hm k).2 hr, Bool.not_true, Bool.false_or, Bool.and_eq_true, decide_eq_true_eq] at hg
    simp [succs, hg.1]
  · rw [gone1, List.getElem?_eq_getElem hk] at hg
    simp at hg
    exact (hm k).1 hg.1
theorem fit2 {l : List Ins} (h : Closed l) (hall : ∀ k, k < l.length → Reach l k) : Fit (gone2 l) l := by
  refine ⟨h, fun k x hr hg hx => ?_, fun k hk _ => hall k hk⟩
  simp only [gone2, hx, Bool.and_eq_true, decide_eq_true_eq] at hg
  simp [succs, hg.1, hg.2.1]
theorem cleaned_all {met : Nat → Bool} {code : List Ins} (h : Closed (turned code)) (hm : ∀ k, met k = true ↔ Reach (turned code) k) : Closed (cleaned met code) ∧ ∀ i, i < (cleaned met code).length → Reach (cleaned met code) i :=
  have f1 := fit1 h hm
  have f2 := fit2 f1.new_closed f1.all
  ⟨f2.new_closed, f2.all⟩
theorem mapT_mov {g : Int → Int} {x : Ins} (h : (mapT g x).op = 1) : mapT g x = x := by
  rw [mapT_op] at h
  simp [mapT, h]
theorem cleaned_mov {met : Nat → Bool} {code : List Ins} {i : Nat} {y : Ins} (hy : (cleaned met code)[i]? = some y) : ¬ (y.op = 1 ∧ y.a = y.d) := by
  rintro ⟨h1, h2⟩
  obtain ⟨k, x, hk, hg, rfl, hx, hnew⟩ := Fit.get (gone := gone2 (without (gone1 met (turned code)) (turned code))) (code := without (gone1 met (turned code)) (turned code)) (List.getElem?_eq_some_iff.1 hy).1
  obtain rfl := Option.some.inj (hnew.symm.trans hy)
  have e := mapT_mov h1
  rw [e] at h1 h2
  obtain ⟨k', x', hk', hg', rfl, hx', hnew'⟩ := Fit.get (List.getElem?_eq_some_iff.1 hx).1
  obtain rfl := Option.some.inj (hnew'.symm.trans hx)
  have e' := mapT_mov h1
  rw [e'] at h1 h2
  simp [gone1, hx', h1, h2] at hg'
end Peep
end Go.Proofs.YtdlhocghiaghfaaGreatDoor

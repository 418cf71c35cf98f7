/-
  What the proofs lean on: Env, PeepLaw, FewAll.
-/
import Derived.Lib.LaidTab
import Derived.Lib.AppendIntMem
import Derived.Lib.ItoaLen
import Derived.Below
import Derived.Lib.Hide
import Derived.Test.YtigkhmppnnljiaaGreatDoorPreA01
import Derived.Test.YtigkhmppnnljiaaGreatDoorPreA02
set_option maxRecDepth 100000
set_option maxHeartbeats 16000000
namespace Go.Proofs.YtigkhmppnnljiaaGreatDoor
section
open Go.RowKit
def Env (w : World) : Prop := Lib.TabIs Tryz.prog w "internal/strconv.uint64pow10" .u64 Lib.pow10Tab
theorem Below.next {w w1 w2 : World} (h : Below w.heap.size w w1) (h' : Below w1.heap.size w1 w2) : Below w.heap.size w w2 :=
 h.trans (h'.mono h.size)
theorem Below.drewN {w w1 : World} {B : Nat} (h : Below B w w1) (k : Nat) : Below B w (w1.drewN k) := ⟨h.os, h.tape, h.output, h.size, h.block⟩
theorem Below.self (w : World) : Below w.heap.size w w := Below.refl _ _
theorem Below.selfN (w : World) (k : Nat) : Below w.heap.size w (w.drewN k) := ⟨rfl, rfl, rfl, Nat.le_refl _, fun _ _ => rfl⟩
theorem trim_any (s cutset : ByteArray) (hs : s.size ≤ 9223372036854775807) (hcs : cutset.size < 4294967281) (ha : cutset.data.toList.all (fun b => decide (b.toNat < 128)) = true) (w : World) :
  Calls Tryz.prog 135 #[.string s, .string cutset] w fun e w' => e = .returned (.string ⟨(Lib.trimS s.data.toList cutset.data.toList).toArray⟩) ∧ Below w.heap.size w w' :=
 Any.strings_Trim_laid Tryz.lays160 (by kernel_rfl) s cutset w hs hcs (ascii_of_all ha)
theorem atoi_any (s : ByteArray) (n : Int) (hl : s.size ≤ 18) (h : Lib.atoi s.data.toList = some n) (w : World) :
  Calls Tryz.prog 173 #[.string s] w fun e w' => e = .returned (.tuple #[.int .i64 n, .nilIface]) ∧ Below w.heap.size w w' := by
 refine (Tryz.strconv_Atoi s n hl h w).mono ?_
 rintro e w' ⟨rfl, t, rfl⟩
 exact ⟨rfl, rfl, rfl, rfl, by rw [Lib.bytesWorld_size]; omega, fun k hk => Lib.bytesWorld_at_old _ _ _ _ hk⟩
end
section
namespace Peep
def succs (x : Ins) (k : Nat) : List Nat := (if x.op ≠ 15 ∧ x.op < 19 then [k + 1] else []) ++ (if x.op = 15 then [x.a.toNat] else if x.op = 16 then [x.b.toNat] else [])
inductive Reach (code : List Ins) : Nat → Prop
 | zero : Reach code 0
 | step {k j : Nat} {x : Ins} : Reach code k → code[k]? = some x → j ∈ succs x k → Reach code j
def Closed (code : List Ins) : Prop := 0 < code.length ∧ ∀ (k : Nat) (x : Ins), code[k]? = some x → ∀ j ∈ succs x k, j < code.length
theorem Reach.lt {code : List Ins} (h : Closed code) : ∀ {k : Nat}, Reach code k → k < code.length
 | _, .zero => h.1
 | _, .step _ hx hj => h.2 _ _ hx _ hj
theorem Reach.sub {code : List Ins} {S : Nat → Prop} (h0 : S 0) (hs : ∀ (k : Nat) (x : Ins), S k → code[k]? = some x → ∀ j ∈ succs x k, S j) : ∀ {k : Nat}, Reach code k → S k
 | _, .zero => h0
 | _, .step hk hx hj => hs _ _ (hk.sub h0 hs) hx _ hj
def leads (code : List Ins) : Nat → List Nat → Nat → Nat
 | 0, _, p => p
 | f + 1, met, p => match code[p]? with
  | some x => if x.op = 15 ∧ ¬ x.a.toNat ∈ met then leads code f (x.a.toNat :: met) x.a.toNat else p
  | none => p
theorem leads_lt {code : List Ins} (h : Closed code) : ∀ (f : Nat) (met : List Nat) (p : Nat), p < code.length → leads code f met p < code.length
 | 0, _, _, hp => hp
 | f + 1, met, p, hp => by
  rw [leads]
  split
  ·rename_i x hx
   split
   ·rename_i hc
    exact leads_lt h f _ _ (h.2 p x hx _ (by simp [succs, hc.1]))
   ·exact hp
  ·exact hp
def mapT (g : Int → Int) (x : Ins) : Ins := if x.op = 15 then { x with a := g x.a } else if x.op = 16 then { x with b := g x.b } else x
theorem mapT_op (g : Int → Int) (x : Ins) : (mapT g x).op = x.op := by unfold mapT; split <;> (try split) <;> rfl
theorem succs_mapT {g : Int → Int} {x : Ins} {k k' : Nat} {j : Nat} (h : j ∈ succs x k) : (j = k + 1 ∧ x.op ≠ 15 ∧ x.op < 19 ∧ k' + 1 ∈ succs (mapT g x) k') ∨ (∃ t : Int, (x.op = 15 ∧ t = x.a ∨ x.op = 16 ∧ t = x.b) ∧ j = t.toNat ∧ (g t).toNat ∈ succs (mapT g x) k') := by
 simp only [succs, List.mem_append] at h
 rcases h with h | h
 ·split at h
  ·rename_i hc
   left
   refine ⟨by simpa using h, hc.1, hc.2, ?_⟩
   simp [succs, mapT_op, hc]
  ·simp at h
 ·split at h
  ·rename_i hc
   right
   exact ⟨x.a, .inl ⟨hc, rfl⟩, by simpa using h, by simp [succs, mapT, hc]⟩
  ·rename_i h15
   split at h
   ·rename_i hc
    right
    exact ⟨x.b, .inr ⟨hc, rfl⟩, by simpa using h, by simp [succs, mapT, hc]⟩
   ·simp at h
theorem succs_of_mapT {g : Int → Int} {x : Ins} {k k' : Nat} {j : Nat} (h : j ∈ succs (mapT g x) k') : (j = k' + 1 ∧ k + 1 ∈ succs x k) ∨ (∃ t : Int, (x.op = 15 ∧ t = x.a ∨ x.op = 16 ∧ t = x.b) ∧ j = (g t).toNat ∧ t.toNat ∈ succs x k) := by
 simp only [succs, mapT_op, List.mem_append] at h
 rcases h with h | h
 ·split at h
  ·rename_i hc
   left
   exact ⟨by simpa using h, by simp [succs, hc]⟩
  ·simp at h
 ·split at h
  ·rename_i hc
   right
   exact ⟨x.a, .inl ⟨hc, rfl⟩, by simpa [mapT, hc] using h, by simp [succs, hc]⟩
  ·rename_i h15
   split at h
   ·rename_i hc
    right
    exact ⟨x.b, .inr ⟨hc, rfl⟩, by simpa [mapT, hc] using h, by simp [succs, hc]⟩
   ·simp at h
def cnt (gone : Nat → Bool) : Nat → Nat
 | 0 => 0
 | k + 1 => cnt gone k + if gone k then 0 else 1
def wo (gone : Nat → Bool) (g : Int → Int) (code : List Ins) : Nat → List Ins
 | 0 => []
 | j + 1 => wo gone g code j ++ (match code[j]? with | some x => if gone j then [] else [mapT g x] | none => [])
theorem cnt_le (gone : Nat → Bool) : ∀ k, cnt gone k ≤ k
 | 0 => Nat.le_refl _
 | k + 1 => by have := cnt_le gone k; rw [cnt]; split <;> omega
theorem wo_len {gone : Nat → Bool} {g : Int → Int} {code : List Ins} : ∀ {j : Nat}, j ≤ code.length → (wo gone g code j).length = cnt gone j
 | 0, _ => rfl
 | j + 1, h => by
  rw [wo, cnt, List.length_append, wo_len (j := j) (by omega), List.getElem?_eq_getElem (by omega)]
  cases hg : gone j <;> simp
theorem wo_get {gone : Nat → Bool} {g : Int → Int} {code : List Ins} {k : Nat} {x : Ins} (hg : gone k = false) (hx : code[k]? = some x) : ∀ {j : Nat}, k < j → j ≤ code.length → (wo gone g code j)[cnt gone k]? = some (mapT g x)
 | 0, h, _ => by omega
 | j + 1, h, hj => by
  rw [wo]
  by_cases hk : k = j
  ·subst hk
   rw [List.getElem?_append_right (by rw [wo_len (by omega)]; exact Nat.le_refl _), wo_len (by omega), hx]
   simp [hg]
  ·have := wo_get (g := g) hg hx (j := j) (by omega) (by omega)
   rw [List.getElem?_append_left (List.getElem?_eq_some_iff.1 this).1]
   exact this
theorem wo_ex {gone : Nat → Bool} {i : Nat} : ∀ {j : Nat}, i < cnt gone j → ∃ k, k < j ∧ gone k = false ∧ cnt gone k = i
 | 0, h => by simp [cnt] at h
 | j + 1, h => by
  rw [cnt] at h
  by_cases hi : i < cnt gone j
  ·obtain ⟨k, h1, h2, h3⟩ := wo_ex hi
   exact ⟨k, by omega, h2, h3⟩
  ·cases hgj : gone j with
   | true => rw [hgj] at h; simp at h; omega
   | false => rw [hgj] at h; simp at h; exact ⟨j, by omega, hgj, by omega⟩
def without (gone : Nat → Bool) (code : List Ins) : List Ins := wo gone (fun t => (cnt gone t.toNat : Nat)) code code.length
structure Fit (gone : Nat → Bool) (code : List Ins) : Prop where
 closed : Closed code
 goes : ∀ (k : Nat) (x : Ins), Reach code k → gone k = true → code[k]? = some x → succs x k = [k + 1]
 kept : ∀ k, k < code.length → gone k = false → Reach code k
theorem Fit.reach {gone : Nat → Bool} {code : List Ins} (h : Fit gone code) : ∀ {k : Nat}, Reach code k → Reach (without gone code) (cnt gone k)
 | _, .zero => .zero
 | _, .step (k := k) (j := j) (x := x) hk hx hj => by
  have ih := h.reach hk
  have hlt := (List.getElem?_eq_some_iff.1 hx).1
  cases hg : gone k with
  | true =>
   rw [h.goes k x hk hg hx] at hj
   obtain rfl : j = k + 1 := by simpa using hj
   rw [cnt, hg]
   simpa using ih
  | false =>
   have hnew := wo_get (g := fun t => (cnt gone t.toNat : Nat)) hg hx hlt (Nat.le_refl _)
   rcases succs_mapT (g := fun t => (cnt gone t.toNat : Nat)) (k' := cnt gone k) hj with ⟨rfl, _, _, hm⟩ | ⟨t, _, rfl, hm⟩
   ·rw [cnt, hg]
    exact .step ih hnew (by simpa using hm)
   ·exact .step ih hnew (by simpa using hm)
theorem Fit.inside {gone : Nat → Bool} {code : List Ins} (h : Fit gone code) (n k : Nat) (_hn : code.length - k = n) (hk : Reach code k) : cnt gone k < (without gone code).length := by
  have hlt := hk.lt h.closed
  obtain ⟨x, hx⟩ : ∃ x, code[k]? = some x := ⟨_, List.getElem?_eq_getElem hlt⟩
  cases hg : gone k with
  | true =>
   have hs := h.goes k x hk hg hx
   have hk' : Reach code (k + 1) := .step hk hx (by rw [hs]; simp)
   have := hk'.lt h.closed
   have ih := h.inside (code.length - (k + 1)) (k + 1) rfl hk'
   rw [cnt, hg] at ih
   simpa using ih
  | false =>
   exact (List.getElem?_eq_some_iff.1 (wo_get (g := fun t => (cnt gone t.toNat : Nat)) hg hx hlt (Nat.le_refl _))).1
 termination_by n
 decreasing_by omega
theorem Fit.get {gone : Nat → Bool} {code : List Ins} {i : Nat} (hi : i < (without gone code).length) : ∃ k x, k < code.length ∧ gone k = false ∧ cnt gone k = i ∧ code[k]? = some x ∧ (without gone code)[i]? = some (mapT (fun t => (cnt gone t.toNat : Nat)) x) := by
 rw [without, wo_len (Nat.le_refl _)] at hi
 obtain ⟨k, h1, h2, h3⟩ := wo_ex hi
 refine ⟨k, code[k], h1, h2, h3, List.getElem?_eq_getElem h1, ?_⟩
 rw [← h3]
 exact wo_get h2 (List.getElem?_eq_getElem h1) h1 (Nat.le_refl _)
theorem Fit.new_closed {gone : Nat → Bool} {code : List Ins} (h : Fit gone code) : Closed (without gone code) := by
 refine ⟨by have := h.inside _ 0 rfl .zero; omega, fun i y hy j hj => ?_⟩
 obtain ⟨k, x, hk, hg, rfl, hx, hnew⟩ := Fit.get (List.getElem?_eq_some_iff.1 hy).1
 obtain rfl : mapT _ x = y := Option.some.inj (hnew.symm.trans hy)
 have hr := h.kept k hk hg
 rcases succs_of_mapT (k := k) hj with ⟨rfl, hm⟩ | ⟨t, _, rfl, hm⟩
 ·have := h.inside _ (k + 1) rfl (.step hr hx hm)
  rw [cnt, hg] at this
  simpa using this
 ·simpa using h.inside _ t.toNat rfl (.step hr hx hm)
theorem Fit.all {gone : Nat → Bool} {code : List Ins} (h : Fit gone code) : ∀ i, i < (without gone code).length → Reach (without gone code) i := by
 intro i hi
 obtain ⟨k, x, hk, hg, rfl, _, _⟩ := Fit.get hi
 exact h.reach (h.kept k hk hg)
def gone1 (met : Nat → Bool) (l : List Ins) (k : Nat) : Bool := match l[k]? with | some x => !met k || (decide (x.op = 1) && decide (x.d = x.a)) | none => true
def gone2 (l : List Ins) (k : Nat) : Bool := match l[k]? with | some x => decide (x.op = 15) && (decide (x.a = k + 1) && decide ((k : Int) < (l.length : Int) - 1)) | none => true
def turned (code : List Ins) : List Ins := code.map (mapT fun t => (leads code code.length [t.toNat] t.toNat : Nat))
def cleaned (met : Nat → Bool) (code : List Ins) : List Ins := without (gone2 (without (gone1 met (turned code)) (turned code))) (without (gone1 met (turned code)) (turned code))
theorem turned_closed {code : List Ins} (h : Closed code) : Closed (turned code) := by
 refine ⟨by simpa [turned] using h.1, fun k y hy j hj => ?_⟩
 simp only [turned, List.getElem?_map, Option.map_eq_some_iff] at hy
 obtain ⟨x, hx, rfl⟩ := hy
 rw [turned, List.length_map]
 rcases succs_of_mapT (k := k) hj with ⟨rfl, hm⟩ | ⟨t, _, rfl, hm⟩
 ·exact h.2 k x hx _ hm
 ·simp only [Int.toNat_natCast]
  exact leads_lt h _ _ _ (h.2 k x hx _ hm)
theorem fit1 {met : Nat → Bool} {l : List Ins} (h : Closed l) (hm : ∀ k, met k = true ↔ Reach l k) : Fit (gone1 met l) l := by
 refine ⟨h, fun k x hr hg hx => ?_, fun k hk hg => ?_⟩
 ·simp only [gone1, hx, (hm k).2 hr, Bool.not_true, Bool.false_or, Bool.and_eq_true, decide_eq_true_eq] at hg
  simp [succs, hg.1]
 ·rw [gone1, List.getElem?_eq_getElem hk] at hg
  simp at hg
  exact (hm k).1 hg.1
theorem fit2 {l : List Ins} (h : Closed l) (hall : ∀ k, k < l.length → Reach l k) : Fit (gone2 l) l := by
 refine ⟨h, fun k x hr hg hx => ?_, fun k hk _ => hall k hk⟩
 simp only [gone2, hx, Bool.and_eq_true, decide_eq_true_eq] at hg
 simp [succs, hg.1, hg.2.1]
theorem cleaned_all {met : Nat → Bool} {code : List Ins} (h : Closed (turned code)) (hm : ∀ k, met k = true ↔ Reach (turned code) k) : Closed (cleaned met code) ∧ ∀ i, i < (cleaned met code).length → Reach (cleaned met code) i :=
 have f1 := fit1 h hm
 have f2 := fit2 f1.new_closed f1.all
 ⟨f2.new_closed, f2.all⟩
theorem mapT_mov {g : Int → Int} {x : Ins} (h : (mapT g x).op = 1) : mapT g x = x := by
 rw [mapT_op] at h
 simp [mapT, h]
end Peep
end
section
open Go.RowKit
mutual
def RepD (w : World) (B : Nat) : Dat → Value → Prop
 | .mk k n d s l, v => ∃ o len cap, v = .agg #[.int .i64 k, .int .i64 n, .int .i64 d, .string s, .slice o len cap] ∧
   (-9223372036854775808 ≤ k ∧ k ≤ 9223372036854775807) ∧ (-9223372036854775808 ≤ n ∧ n ≤ 9223372036854775807) ∧ (-9223372036854775808 ≤ d ∧ d ≤ 9223372036854775807) ∧ s.size ≤ 140737488351232 ∧
   len = l.length ∧ len ≤ cap ∧ cap ≤ 9223372036854775807 ∧ (match o with | none => l = [] ∧ cap = 0 | some a => (l ≠ [] → a.spot = none ∧ a.block < B) ∧ RepC w B l a.block a.off)
def RepC (w : World) (B : Nat) : List Dat → Nat → Nat → Prop
 | [], _, _ => True
 | x :: l, b, off => (∃ c0 c1 c2 c3 c4, w.cell? ⟨b, off, none⟩ = some c0 ∧ w.cell? ⟨b, off + 1, none⟩ = some c1 ∧ w.cell? ⟨b, off + 2, none⟩ = some c2 ∧ w.cell? ⟨b, off + 3, none⟩ = some c3 ∧ w.cell? ⟨b, off + 4, none⟩ = some c4 ∧ RepD w B x (.agg #[c0, c1, c2, c3, c4])) ∧ RepC w B l b (off + 5)
end
def RepS (w : World) (B : Nat) (l : List Dat) (v : Value) : Prop :=
 ∃ o len cap, v = .slice o len cap ∧ len = l.length ∧ len ≤ cap ∧ cap ≤ 9223372036854775807 ∧ (match o with | none => l = [] ∧ cap = 0 | some a => (l ≠ [] → a.spot = none ∧ a.block < B) ∧ RepC w B l a.block a.off)
theorem RepD.open {w : World} {B : Nat} {k n d : Int} {s : ByteArray} {l : List Dat} {v : Value} (h : RepD w B (.mk k n d s l) v) :
  ∃ sl, v = .agg #[.int .i64 k, .int .i64 n, .int .i64 d, .string s, sl] ∧ (-9223372036854775808 ≤ k ∧ k ≤ 9223372036854775807) ∧ (-9223372036854775808 ≤ n ∧ n ≤ 9223372036854775807) ∧ (-9223372036854775808 ≤ d ∧ d ≤ 9223372036854775807) ∧ s.size ≤ 140737488351232 ∧ RepS w B l sl := by
 rw [RepD] at h
 obtain ⟨o, len, cap, rfl, h1, h2, h3, h4, h5⟩ := h
 exact ⟨_, rfl, h1, h2, h3, h4, o, len, cap, rfl, h5⟩
theorem RepD.shut {w : World} {B : Nat} {k n d : Int} {s : ByteArray} {l : List Dat} {sl : Value} (h1 : -9223372036854775808 ≤ k ∧ k ≤ 9223372036854775807) (h2 : -9223372036854775808 ≤ n ∧ n ≤ 9223372036854775807) (h3 : -9223372036854775808 ≤ d ∧ d ≤ 9223372036854775807) (h4 : s.size ≤ 140737488351232) (h : RepS w B l sl) :
  RepD w B (.mk k n d s l) (.agg #[.int .i64 k, .int .i64 n, .int .i64 d, .string s, sl]) := by
 obtain ⟨o, len, cap, rfl, h5⟩ := h
 rw [RepD]
 exact ⟨o, len, cap, rfl, h1, h2, h3, h4, h5⟩
theorem RepC.at {w : World} {B b : Nat} : ∀ {l : List Dat} {off : Nat}, RepC w B l b off → ∀ (i : Nat) (x : Dat), l[i]? = some x →
  ∃ c0 c1 c2 c3 c4, w.cell? ⟨b, off + i * 5, none⟩ = some c0 ∧ w.cell? ⟨b, off + i * 5 + 1, none⟩ = some c1 ∧ w.cell? ⟨b, off + i * 5 + 2, none⟩ = some c2 ∧ w.cell? ⟨b, off + i * 5 + 3, none⟩ = some c3 ∧ w.cell? ⟨b, off + i * 5 + 4, none⟩ = some c4 ∧ RepD w B x (.agg #[c0, c1, c2, c3, c4])
 | [], _, _, i, x, hx => by simp at hx
 | y :: l, off, h, i, x, hx => by
  rw [RepC] at h
  cases i with
  | zero =>
   simp only [List.getElem?_cons_zero, Option.some.injEq] at hx
   subst hx
   simpa using h.1
  | succ i =>
   have := RepC.at h.2 i x (by simpa using hx)
   have e : off + (i + 1) * 5 = off + 5 + i * 5 := by omega
   rw [e]; exact this
theorem rep_kept {w w' : World} {B : Nat} (hk : ∀ b o, b < B → w'.cell? ⟨b, o, none⟩ = w.cell? ⟨b, o, none⟩) :
  (∀ x v, RepD w B x v → RepD w' B x v) ∧ (∀ l b off, b < B → RepC w B l b off → RepC w' B l b off) := by
 have both : (∀ x : Dat, ∀ v, RepD w B x v → RepD w' B x v) := by
  intro x
  refine Dat.rec (motive_1 := fun x => ∀ v, RepD w B x v → RepD w' B x v) (motive_2 := fun l => ∀ b off, b < B → RepC w B l b off → RepC w' B l b off) ?_ ?_ ?_ x
  ·intro k n d s l ih v h
   rw [RepD] at h ⊢
   obtain ⟨o, len, cap, rfl, h1, h2, h3, h4, h5, h6, h7, h8⟩ := h
   refine ⟨o, len, cap, rfl, h1, h2, h3, h4, h5, h6, h7, ?_⟩
   cases o with
   | none => exact h8
   | some a =>
    refine ⟨h8.1, ?_⟩
    by_cases hl : l = []
    ·subst hl; rw [RepC]; trivial
    ·exact ih _ _ (h8.1 hl).2 h8.2
  ·intro b off _ _; rw [RepC]; trivial
  ·intro x l ihx ihl b off hb h
   rw [RepC] at h ⊢
   obtain ⟨⟨c0, c1, c2, c3, c4, h0, h1, h2, h3, h4, h5⟩, h6⟩ := h
   exact ⟨⟨c0, c1, c2, c3, c4, by rw [hk _ _ hb]; exact h0, by rw [hk _ _ hb]; exact h1, by rw [hk _ _ hb]; exact h2, by rw [hk _ _ hb]; exact h3, by rw [hk _ _ hb]; exact h4, ihx _ h5⟩, ihl _ _ hb h6⟩
 refine ⟨both, ?_⟩
 intro l
 induction l with
 | nil => intro b off _ _; rw [RepC]; trivial
 | cons x l ih =>
  intro b off hb h
  rw [RepC] at h ⊢
  obtain ⟨⟨c0, c1, c2, c3, c4, h0, h1, h2, h3, h4, h5⟩, h6⟩ := h
  exact ⟨⟨c0, c1, c2, c3, c4, by rw [hk _ _ hb]; exact h0, by rw [hk _ _ hb]; exact h1, by rw [hk _ _ hb]; exact h2, by rw [hk _ _ hb]; exact h3, by rw [hk _ _ hb]; exact h4, both _ _ h5⟩, ih _ _ hb h6⟩
theorem below_cells {B : Nat} {w w' : World} (h : Below B w w') : ∀ b o, b < B → w'.cell? ⟨b, o, none⟩ = w.cell? ⟨b, o, none⟩ :=
 fun b o hb => h.cell (p := ⟨b, o, none⟩) hb
theorem RepD.kept {w w' : World} {B : Nat} {x : Dat} {v : Value} (h : RepD w B x v) (hb : Below B w w') : RepD w' B x v := (rep_kept (below_cells hb)).1 x v h
theorem RepC.kept {w w' : World} {B : Nat} {l : List Dat} {b off : Nat} (h : RepC w B l b off) (hB : b < B) (hb : Below B w w') : RepC w' B l b off := (rep_kept (below_cells hb)).2 l b off hB h
theorem RepS.kept {w w' : World} {B : Nat} {l : List Dat} {v : Value} (h : RepS w B l v) (hb : Below B w w') : RepS w' B l v := by
 obtain ⟨o, len, cap, rfl, h1, h2, h3, h4⟩ := h
 refine ⟨o, len, cap, rfl, h1, h2, h3, ?_⟩
 cases o with
 | none => exact h4
 | some a =>
  refine ⟨h4.1, ?_⟩
  by_cases hl : l = []
  ·subst hl; rw [RepC]; trivial
  ·exact h4.2.kept (h4.1 hl).2 hb
theorem rep_wider {w : World} {B B' : Nat} (hB : B ≤ B') : (∀ x v, RepD w B x v → RepD w B' x v) ∧ (∀ l b off, RepC w B l b off → RepC w B' l b off) := by
 have both : (∀ x : Dat, ∀ v, RepD w B x v → RepD w B' x v) := by
  intro x
  refine Dat.rec (motive_1 := fun x => ∀ v, RepD w B x v → RepD w B' x v) (motive_2 := fun l => ∀ b off, RepC w B l b off → RepC w B' l b off) ?_ ?_ ?_ x
  ·intro k n d s l ih v h
   rw [RepD] at h ⊢
   obtain ⟨o, len, cap, rfl, h1, h2, h3, h4, h5, h6, h7, h8⟩ := h
   refine ⟨o, len, cap, rfl, h1, h2, h3, h4, h5, h6, h7, ?_⟩
   cases o with
   | none => exact h8
   | some a => exact ⟨fun hl => ⟨(h8.1 hl).1, Nat.lt_of_lt_of_le (h8.1 hl).2 hB⟩, ih _ _ h8.2⟩
  ·intro b off _; rw [RepC]; trivial
  ·intro x l ihx ihl b off h
   rw [RepC] at h ⊢
   obtain ⟨⟨c0, c1, c2, c3, c4, h0, h1, h2, h3, h4, h5⟩, h6⟩ := h
   exact ⟨⟨c0, c1, c2, c3, c4, h0, h1, h2, h3, h4, ihx _ h5⟩, ihl _ _ h6⟩
 refine ⟨both, ?_⟩
 intro l
 induction l with
 | nil => intro b off _; rw [RepC]; trivial
 | cons x l ih =>
  intro b off h
  rw [RepC] at h ⊢
  obtain ⟨⟨c0, c1, c2, c3, c4, h0, h1, h2, h3, h4, h5⟩, h6⟩ := h
  exact ⟨⟨c0, c1, c2, c3, c4, h0, h1, h2, h3, h4, both _ _ h5⟩, ih _ _ h6⟩
theorem RepD.wider {w : World} {B B' : Nat} {x : Dat} {v : Value} (h : RepD w B x v) (hB : B ≤ B') : RepD w B' x v := (rep_wider hB).1 x v h
theorem RepS.wider {w : World} {B B' : Nat} {l : List Dat} {v : Value} (h : RepS w B l v) (hB : B ≤ B') : RepS w B' l v := by
 obtain ⟨o, len, cap, rfl, h1, h2, h3, h4⟩ := h
 refine ⟨o, len, cap, rfl, h1, h2, h3, ?_⟩
 cases o with
 | none => exact h4
 | some a => exact ⟨fun hl => ⟨(h4.1 hl).1, Nat.lt_of_lt_of_le (h4.1 hl).2 hB⟩, (rep_wider hB).2 _ _ _ h4.2⟩
end
section
open Go.RowKit
theorem few_ge : ∀ x : Dat, ∀ left : Int, 0 ≤ left → -1 ≤ Dat.few x left := by
 have hL : ∀ l : List Dat, (∀ x ∈ l, ∀ left : Int, 0 ≤ left → -1 ≤ Dat.few x left) → ∀ left : Int, -1 ≤ left → -1 ≤ Dat.fewL l left := by
  intro l
  induction l with
  | nil => intro _ left h; simpa [Dat.fewL] using h
  | cons x l ih =>
   intro hx left h
   rw [Dat.fewL]
   split
   ·exact ih (fun y hy => hx y (by simp [hy])) _ (hx x (by simp) _ (by omega))
   ·exact h
 intro x
 induction x using Dat.ind with
 | h k n d s l ih =>
  intro left h
  rw [Dat.few]
  exact hL l ih _ (by omega)
theorem fewL_step {l : List Dat} {i : Nat} {x : Dat} {cur : Int} (h : l[i]? = some x) (hc : 0 ≤ cur) : Dat.fewL (l.drop i) cur = Dat.fewL (l.drop (i + 1)) (Dat.few x cur) := by
 have e : l.drop i = x :: l.drop (i + 1) := by
  obtain ⟨hi, he⟩ := List.getElem?_eq_some_iff.1 h
  rw [← he]; exact List.drop_eq_getElem_cons hi
 rw [e, Dat.fewL, if_pos hc]
theorem fewL_neg (l : List Dat) {cur : Int} (hc : ¬ 0 ≤ cur) : Dat.fewL l cur = cur := by
 cases l with
 | nil => rfl
 | cons x l => rw [Dat.fewL, if_neg hc]
theorem box_cell (w : World) (cs : Array Value) (t : TypeId) (i : Nat) {v : Value} (h : cs[i]? = some v) : (w.alloc (.cells cs t)).cell? ⟨w.heap.size, i, none⟩ = some v := by
 have hn : (w.alloc (.cells cs t)).heap[w.heap.size]? = some (.cells cs t) := (MapKept.heap_alloc w _).1
 show (match (w.alloc (.cells cs t)).heap[w.heap.size]? with | some (.cells c _ _) => _ | _ => _) = _
 rw [hn]
 simpa using h
theorem part_at {w wr : World} {B : Nat} {l : List Dat} {o : Option Addr} {cap j : Nat} {x : Dat} (h : match o with | none => l = [] ∧ cap = 0 | some a => (l ≠ [] → a.spot = none ∧ a.block < B) ∧ RepC w B l a.block a.off)
  (hb : Below B w wr) (hx : l[j]? = some x) :
  ∃ b off, o = some ⟨b, off, none⟩ ∧ ∃ c0 c1 c2 c3 c4, wr.cell? ⟨b, off + j * 5, none⟩ = some c0 ∧ wr.cell? ⟨b, off + j * 5 + 1, none⟩ = some c1 ∧ wr.cell? ⟨b, off + j * 5 + 2, none⟩ = some c2 ∧ wr.cell? ⟨b, off + j * 5 + 3, none⟩ = some c3 ∧ wr.cell? ⟨b, off + j * 5 + 4, none⟩ = some c4 ∧ RepD wr B x (.agg #[c0, c1, c2, c3, c4]) := by
 cases o with
 | none => rw [h.1] at hx; simp at hx
 | some a =>
  have hl : l ≠ [] := by rintro rfl; simp at hx
  obtain ⟨b, off, sp⟩ := a
  obtain ⟨hs, hlt⟩ := h.1 hl
  simp only at hs hlt
  subst hs
  exact ⟨b, off, rfl, (h.2.kept hlt hb).at j x hx⟩
theorem part_at2 {w wr : World} {B : Nat} {l : List Dat} {o : Option Addr} {cap j : Nat} {x : Dat} (h : match o with | none => l = [] ∧ cap = 0 | some a => (l ≠ [] → a.spot = none ∧ a.block < B) ∧ RepC w B l a.block a.off)
  (hb : Below B w wr) (hx : l[j]? = some x) :
  ∃ b off k n d s l' o' len' cap', o = some ⟨b, off, none⟩ ∧ x = .mk k n d s l' ∧ wr.cell? ⟨b, off + j * 5, none⟩ = some (.int .i64 k) ∧ wr.cell? ⟨b, off + j * 5 + 1, none⟩ = some (.int .i64 n) ∧ wr.cell? ⟨b, off + j * 5 + 2, none⟩ = some (.int .i64 d) ∧
   wr.cell? ⟨b, off + j * 5 + 3, none⟩ = some (.string s) ∧ wr.cell? ⟨b, off + j * 5 + 4, none⟩ = some (.slice o' len' cap') ∧ RepD wr B (.mk k n d s l') (.agg #[.int .i64 k, .int .i64 n, .int .i64 d, .string s, .slice o' len' cap']) := by
 obtain ⟨b, off, ho, c0, c1, c2, c3, c4, e0, e1, e2, e3, e4, er⟩ := part_at h hb hx
 obtain ⟨k, n, d, s, l'⟩ := x
 obtain ⟨sl, hv, _, _, _, _, o', len', cap', hsl, _⟩ := er.open
 subst hsl
 simp only [Value.agg.injEq, Array.mk.injEq, List.cons.injEq, and_true] at hv
 obtain ⟨rfl, rfl, rfl, rfl, rfl⟩ := hv
 exact ⟨b, off, k, n, d, s, l', o', len', cap', ho, rfl, e0, e1, e2, e3, e4, er⟩
theorem rfew_any : ∀ (x : Dat) (v : Value) (left : Int) (B : Nat) (w : World), RepD w B x v → B ≤ w.heap.size → 0 ≤ left → left ≤ 100000 →
  Calls Tryz.prog 28 #[v, .int .i64 left] w fun e w' => e = .returned (.int .i64 (Dat.few x left)) ∧ Below w.heap.size w w' := by
 intro x
 induction x using Dat.ind with
 | h k n d s l ih =>
  intro v left B w hv hB h0 h1
  obtain ⟨sl, rfl, _, _, _, _, o, len, cap, rfl, hlen, hcap, hmax, hc⟩ := hv.open
  have IH := Lib.hid ih
  have HV := Lib.hid hc
  have HL := Lib.hid hlen
  clear ih hv hc hlen
  go_enter Tryz.func28, Tryz.ntmps28
  go_wp2
  have hBox : ∀ wr, Below (w.heap.size + 1) (w.alloc (.cells #[.int .i64 k, .int .i64 n, .int .i64 d, .string s, .slice o len cap] 60)) wr → wr.cell? ⟨w.heap.size, 4, none⟩ = some (.slice o len cap) := by
   intro wr hb
   rw [hb.cell (p := ⟨w.heap.size, 4, none⟩) (by simp)]
   exact box_cell _ _ _ _ (by simp)
  have HB := Lib.hid hBox
  clear hBox
  go_loopw [1, 5] (fun a i wr => ∃ (cur : Int) (j : Nat), a = .int .i64 cur ∧ i = .int .i64 j ∧ j ≤ len ∧ -1 ≤ cur ∧ cur ≤ 100000 ∧ Dat.fewL (l.drop j) cur = Dat.fewL l (left - 1) ∧ Below (w.heap.size + 1) (w.alloc (.cells #[.int .i64 k, .int .i64 n, .int .i64 d, .string s, .slice o len cap] 60)) wr) (fun _ i _ => len - (intOf i).toNat)
  case atStart => exact ⟨left - 1, 0, rfl, rfl, by omega, by omega, by omega, rfl, Below.refl _ _⟩
  case round =>
   obtain ⟨cur, j, rfl, rfl, hj, hc1, hc2, hf, hb⟩ := hrel
   have HF := Lib.hid hf
   clear hf
   have hcell := HB.out _ hb
   by_cases hjl : j < len
   ·by_cases hcur : 0 ≤ cur
    ·obtain ⟨x, hx⟩ : ∃ x, l[j]? = some x := ⟨_, List.getElem?_eq_getElem (by rw [← HL.out]; exact hjl)⟩
     have hbw : Below w.heap.size w wr := ((Below.refl _ _).alloc (Nat.le_refl _) _).trans (hb.mono (by omega))
     obtain ⟨b, off, ho, c0, c1, c2, c3, c4, e0, e1, e2, e3, e4, er⟩ := part_at HV.out (hbw.mono hB) hx
     subst ho
     have HX := Lib.hid hx
     have ER := Lib.hid er
     have HF2 := Lib.hid ((fewL_step hx hcur).symm.trans HF.out)
     have g1 := few_ge x cur hcur
     have g2 := Dat.few_le x cur
     have hsz := hbw.size
     obtain ⟨y, hy⟩ : ∃ y, Dat.few x cur = y := ⟨_, rfl⟩
     rw [hy] at g1 g2 HF2
     have HY := Lib.hid hy
     clear hx er hy
     go_wp2_with (first | (go_at_call 28; refine (IH.out x (List.mem_of_getElem? HX.out) _ _ B _ ER.out (by omega) (by omega) (by omega)).mono ?_; rw [HY.out]; rintro e' w1 ⟨rfl, hb1⟩))
     go_roundw
     case rel => exact ⟨y, j + 1, rfl, by go_num, by omega, by omega, by omega, HF2.out, hb.trans (hb1.mono (by have := hb.size; simp at this; omega))⟩
     case measure => simp [intOf]; omega
    ·have HR := Lib.hid (show Dat.fewL l (left - 1) = cur by rw [← HF.out, fewL_neg _ hcur])
     go_wp2
     go_ret
     exact ⟨ret_int (by rw [Dat.few]; exact HR.out.symm), ((Below.refl _ _).alloc (Nat.le_refl _) _).trans (hb.mono (by omega))⟩
   ·have HR := Lib.hid (show Dat.fewL l (left - 1) = cur by
     rw [← HF.out, List.drop_eq_nil_of_le (by rw [← HL.out]; omega)]; rfl)
    go_wp2
    go_ret
    exact ⟨ret_int (by rw [Dat.few]; exact HR.out.symm), ((Below.refl _ _).alloc (Nat.le_refl _) _).trans (hb.mono (by omega))⟩
end
end Go.Proofs.YtigkhmppnnljiaaGreatDoor

/-
  What the proofs lean on: MkLive, MkS.
-/
import Derived.Deep.RegionLaw
import Derived.Deep.AppendLies
import Derived.Maps.Own
import Derived.Maps.OwnOps
import Derived.Maps.Views
import Derived.Maps.OwnSet
import Derived.WideKeyEntry
import Derived.Test.YtigkhmppnnljiaaGreatDoorLsoA04
import Derived.Test.YtigkhmppnnljiaaGreatDoorLsoA12
import Derived.Test.YtigkhmppnnljiaaGreatDoorLsoA13
import Derived.Test.YtigkhmppnnljiaaGreatDoorLsoA21
import Derived.Test.YtigkhmppnnljiaaGreatDoorLsoA23
import Derived.Test.YtigkhmppnnljiaaGreatDoorLsoA27
import Derived.Test.YtigkhmppnnljiaaGreatDoorLsoA29
import Derived.Test.YtigkhmppnnljiaaGreatDoorLsoA30
set_option maxRecDepth 100000
set_option maxHeartbeats 16000000
namespace Go.Proofs.YtigkhmppnnljiaaGreatDoor
section
namespace Mk
open Unt (named gives)
open Peep (succs)
def Avail (A : Nat → Int → Prop) (b : Nat) (s : List Ins) : Prop := ∀ (i : Nat) (x : Ins), s[i]? = some x → (∀ r ∈ named x, A (b + i) r) ∧ ∀ j ∈ succs x (b + i), ∀ r, A j r → A (b + i) r ∨ r = gives x
theorem Fwd.succ {e k : Nat} {x : Ins} (h : Fwd e k x) (hk : k < e) {j : Nat} (hj : j ∈ succs x k) : k < j ∧ j ≤ e := by
 simp only [succs, List.mem_append] at hj
 rcases hj with hj | hj
 ·split at hj
  ·obtain rfl : j = k + 1 := by simpa using hj
   omega
  ·simp at hj
 ·split at hj
  ·rename_i h15
   have := h.2.1 h15
   obtain rfl : j = x.a.toNat := by simpa using hj
   omega
  ·split at hj
   ·rename_i h16
    have := h.2.2 h16
    obtain rfl : j = x.b.toNat := by simpa using hj
    omega
   ·simp at hj
theorem Avail.append {A A1 A2 : Nat → Int → Prop} {b : Nat} {s t : List Ins} (h1 : Avail A1 b s) (h2 : Avail A2 (b + s.length) t) (hf : AllAt (Fwd (b + s.length)) b s) (e1 : ∀ k, b ≤ k → k < b + s.length → A k = A1 k) (em : ∀ r, A (b + s.length) r → A1 (b + s.length) r) (e2 : ∀ i (x : Ins), t[i]? = some x → A (b + s.length + i) = A2 (b + s.length + i) ∧ ∀ j ∈ succs x (b + s.length + i), ∀ r, A j r → A2 j r) : Avail A b (s ++ t) := fun i x hx => by
 by_cases hi : i < s.length
 ·rw [List.getElem?_append_left hi] at hx
  obtain ⟨g1, g2⟩ := h1 i x hx
  have hfw := hf.at hx
  rw [e1 (b + i) (by omega) (by omega)]
  refine ⟨g1, fun j hj r hr => g2 j hj r ?_⟩
  have hs := hfw.succ (by omega) hj
  by_cases hjm : j < b + s.length
  ·rw [e1 j (by omega) hjm] at hr; exact hr
  ·obtain rfl : j = b + s.length := by omega
   exact em r hr
 ·rw [List.getElem?_append_right (by omega)] at hx
  obtain ⟨g1, g2⟩ := h2 _ x hx
  obtain ⟨g3, g4⟩ := e2 _ x hx
  rw [show b + s.length + (i - s.length) = b + i by omega] at g1 g2 g3 g4
  rw [g3]
  exact ⟨g1, fun j hj r hr => g2 j hj r (g4 j hj r hr)⟩
theorem succs_plain {x : Ins} {k : Nat} (h : 0 ≤ x.op ∧ x.op ≠ 15 ∧ x.op ≠ 16 ∧ x.op < 19) : succs x k = [k + 1] := by simp [succs, h]
theorem succs_end {x : Ins} {k : Nat} (h : 19 ≤ x.op ∧ x.op ≤ 22) : succs x k = [] := by
 have h15 : x.op ≠ 15 := by omega
 have h16 : x.op ≠ 16 := by omega
 have h19 : ¬ x.op < 19 := by omega
 simp [succs, h15, h16, h19]
theorem Avail.single {A : Nat → Int → Prop} {b : Nat} {x : Ins} (h1 : ∀ r ∈ named x, A b r) (h2 : ∀ j ∈ succs x b, ∀ r, A j r → A b r ∨ r = gives x) : Avail A b [x] := fun i y hy => by
 cases i with
 | zero =>
  obtain rfl : x = y := by simpa using hy
  exact ⟨h1, h2⟩
 | succ i => simp at hy
theorem Avail.cons {A : Nat → Int → Prop} {b : Nat} {x : Ins} {s : List Ins} (h1 : ∀ r ∈ named x, A b r) (h2 : ∀ j ∈ succs x b, ∀ r, A j r → A b r ∨ r = gives x) (h3 : Avail A (b + 1) s) : Avail A b (x :: s) := fun i y hy => by
 cases i with
 | zero =>
  obtain rfl : x = y := by simpa using hy
  exact ⟨h1, h2⟩
 | succ i =>
  have := h3 i y (by simpa using hy)
  rwa [show b + 1 + i = b + (i + 1) by omega] at this
theorem Avail.congr {A A' : Nat → Int → Prop} {b e : Nat} {s : List Ins} (h : Avail A b s) (hl : e = b + s.length) (hf : AllAt (Fwd e) b s) (h1 : ∀ k, b ≤ k → k < e → A' k = A k) (h2 : ∀ r, A' e r → A e r) : Avail A' b s := fun i x hx => by
 have hi := (List.getElem?_eq_some_iff.1 hx).1
 obtain ⟨g1, g2⟩ := h i x hx
 rw [h1 (b + i) (by omega) (by omega)]
 refine ⟨g1, fun j hj r hr => g2 j hj r ?_⟩
 have hs := (hf.at hx).succ (by omega) hj
 by_cases hje : j < e
 ·rw [h1 j (by omega) hje] at hr; exact hr
 ·obtain rfl : j = e := by omega
  exact h2 r hr
theorem Frag.avail {G E : Int → Prop} {b : Nat} {s : List Ins} (h : Frag G b s E) : ∃ A, Avail A b s ∧ (∀ r, A b r → G r) ∧ ∀ r, E r → A (b + s.length) r := by
 induction h with
 | nil G b => exact ⟨fun _ => G, fun i x hx => by simp at hx, fun _ h => h, fun _ h => h⟩
 | one G b x h1 h2 h3 =>
  refine ⟨fun k => if k = b then G else fun r => G r ∨ r = gives x, Avail.single (by simpa using h2) ?_, by simp, fun r hr => by simpa using hr⟩
  rw [succs_plain h1]
  simp
 | @cat G E F b s t h1 h2 ih1 ih2 =>
  obtain ⟨A1, a1, a2, a3⟩ := ih1
  obtain ⟨A2, b1, b2, b3⟩ := ih2
  refine ⟨fun k => if k < b + s.length then A1 k else A2 k, a1.append b1 h1.fwd (fun k _ hk => by simp [hk]) (fun r hr => ?_) (fun i x hx => ⟨by rw [if_neg (by omega)], fun j hj r hr => ?_⟩), fun r hr => ?_, fun r hr => ?_⟩
  ·simp only [Nat.lt_irrefl, if_false] at hr
   exact a3 r (b2 r hr)
  ·have hi := (List.getElem?_eq_some_iff.1 hx).1
   have hs := (h2.fwd.at hx).succ (by omega) hj
   simpa [show ¬ j < b + s.length by omega] using hr
  ·by_cases hb : b < b + s.length
   ·simp only [hb, if_true] at hr
    exact a2 r hr
   ·simp only [hb, if_false] at hr
    have e : b = b + s.length := by omega
    rw [e] at hr
    have := a3 r (b2 r hr)
    rw [← e] at this
    exact a2 r this
  ·rw [List.length_append, ← Nat.add_assoc]
   dsimp only
   rw [if_neg (by omega)]
   exact b3 r hr
 | sub h1 h2 ih =>
  obtain ⟨A, a1, a2, a3⟩ := ih
  exact ⟨A, a1, a2, fun r hr => a3 r (h2 r hr)⟩
 | @cond G E b s t c hc h1 h2 ht ih1 ih2 =>
  obtain ⟨A1, a1, a2, a3⟩ := ih1
  obtain ⟨A2, b1, b2, b3⟩ := ih2
  have hl : 0 < t.length := List.length_pos_iff.2 ht
  obtain ⟨A, hA⟩ : ∃ A : Nat → Int → Prop, A = fun k => if k ≤ b then G else if k < b + 1 + s.length then A1 k else if k = b + 1 + s.length then E else if k < b + 1 + s.length + 1 + t.length then A2 k else E := ⟨_, rfl⟩
  have A0 : A b = G := by rw [hA]; simp
  have As : ∀ k, b + 1 ≤ k → k < b + 1 + s.length → A k = A1 k := fun k h1 h2 => by rw [hA]; simp [show ¬ k ≤ b by omega, h2]
  have Aj : A (b + 1 + s.length) = E := by rw [hA]; simp [show ¬ b + 1 + s.length ≤ b by omega]
  have At : ∀ k, b + 1 + s.length + 1 ≤ k → k < b + 1 + s.length + 1 + t.length → A k = A2 k := fun k h1 h2 => by rw [hA]; simp [show ¬ k ≤ b by omega, show ¬ k < b + 1 + s.length by omega, show k ≠ b + 1 + s.length by omega, h2]
  have Ae : A (b + 1 + s.length + 1 + t.length) = E := by rw [hA]; simp [show ¬ b + 1 + s.length + 1 + t.length ≤ b by omega, show ¬ b + 1 + s.length + 1 + t.length < b + 1 + s.length by omega, show b + 1 + s.length + 1 + t.length ≠ b + 1 + s.length by omega]
  clear hA
  have hb1 : ∀ r, A (b + 1) r → G r := fun r hr => by
   by_cases hs : 0 < s.length
   ·rw [As _ (Nat.le_refl _) (by omega)] at hr; exact a2 r hr
   ·have e : s.length = 0 := by omega
    rw [show b + 1 = b + 1 + s.length by omega, Aj] at hr
    have := a3 r hr
    rw [e] at this
    exact a2 r this
  have hS := (a1.congr (A' := A) rfl h1.fwd As (fun r hr => a3 r (by rw [Aj] at hr; exact hr)))
  have hT := (b1.congr (A' := A) rfl h2.fwd At (fun r hr => b3 r (by rw [Ae] at hr; exact hr)))
  refine ⟨A, Avail.cons (by simpa [named, A0] using hc) (fun j hj r hr => ?_) ?_, fun r hr => by rw [A0] at hr; exact hr, fun r hr => ?_⟩
  ·have hj : j = b + 1 ∨ j = b + 1 + s.length + 1 := by simp [succs] at hj; omega
   rw [A0]
   rcases hj with rfl | rfl
   ·exact .inl (hb1 r hr)
   ·rw [At _ (Nat.le_refl _) (by omega)] at hr
    exact .inl (b2 r hr)
  ·intro i x hx
   by_cases hi : i < s.length
   ·rw [List.getElem?_append_left hi] at hx
    exact hS i x hx
   ·rw [List.getElem?_append_right (by omega)] at hx
    by_cases h0 : i = s.length
    ·subst h0
     rw [Nat.sub_self] at hx
     simp only [List.getElem?_cons_zero, Option.some.injEq] at hx
     subst hx
     refine ⟨by simp [named], fun j hj r hr => ?_⟩
     obtain rfl : j = b + 1 + s.length + 1 + t.length := by simp [succs] at hj; omega
     rw [Ae] at hr
     rw [Aj]
     exact .inl hr
    ·obtain ⟨i', rfl⟩ : ∃ i', i = s.length + 1 + i' := ⟨i - s.length - 1, by omega⟩
     rw [show s.length + 1 + i' - s.length = i' + 1 by omega] at hx
     have := hT i' x (by simpa using hx)
     rwa [show b + 1 + s.length + 1 + i' = b + 1 + (s.length + 1 + i') by omega] at this
  ·simp only [List.length_cons, List.length_append]
   rw [show b + (s.length + (t.length + 1) + 1) = b + 1 + s.length + 1 + t.length by omega, Ae]
   exact hr
theorem FragE.within {G : Int → Prop} {b : Nat} {s : List Ins} (h : FragE G b s) : AllAt (fun k x => ∀ j ∈ succs x k, k < j ∧ j < b + s.length) b s := by
 induction h with
 | one G b x h1 h2 => exact ⟨fun j hj => by rw [succs_end h1] at hj; simp at hj, trivial⟩
 | @cat G E b s t h1 h2 ih =>
  obtain ⟨y, l, ht, _⟩ := h2.head
  have hl : 0 < t.length := by rw [ht]; simp
  rw [List.length_append, ← Nat.add_assoc]
  exact (h1.fwd.imp fun k x _ hk h j hj => by have := h.succ hk hj; omega).append ih
 | @cond G b s t c hc h1 h2 ih1 ih2 =>
  obtain ⟨y, l, ht, _⟩ := h1.head
  have hl1 : 0 < s.length := by rw [ht]; simp
  obtain ⟨y, l, ht, _⟩ := h2.head
  have hl : 0 < t.length := by rw [ht]; simp
  simp only [List.length_cons, List.length_append]
  refine ⟨fun j hj => ?_, (ih1.imp fun k x _ _ h j hj => by have := h j hj; omega).append (ih2.imp fun k x _ _ h j hj => by have := h j hj; omega)⟩
  have hj : j = b + 1 ∨ j = b + 1 + s.length := by simp [succs] at hj; omega
  omega
theorem FragE.avail {G : Int → Prop} {b : Nat} {s : List Ins} (h : FragE G b s) : ∃ A, Avail A b s ∧ ∀ r, A b r → G r := by
 induction h with
 | one G b x h1 h2 => exact ⟨fun _ => G, Avail.single h2 (by rw [succs_end h1]; simp), fun _ h => h⟩
 | @cat G E b s t h1 h2 ih =>
  obtain ⟨A1, a1, a2, a3⟩ := h1.avail
  obtain ⟨A2, b1, b2⟩ := ih
  refine ⟨fun k => if k < b + s.length then A1 k else A2 k, a1.append b1 h1.fwd (fun k _ hk => by simp [hk]) (fun r hr => ?_) (fun i x hx => ⟨by rw [if_neg (by omega)], fun j hj r hr => ?_⟩), fun r hr => ?_⟩
  ·simp only [Nat.lt_irrefl, if_false] at hr
   exact a3 r (b2 r hr)
  ·have hs := h2.within.at hx j hj
   simpa [show ¬ j < b + s.length by omega] using hr
  ·by_cases hb : b < b + s.length
   ·simp only [hb, if_true] at hr
    exact a2 r hr
   ·simp only [hb, if_false] at hr
    have e : b = b + s.length := by omega
    rw [e] at hr
    have := a3 r (b2 r hr)
    rw [← e] at this
    exact a2 r this
 | @cond G b s t c hc h1 h2 ih1 ih2 =>
  obtain ⟨A1, a1, a2⟩ := ih1
  obtain ⟨A2, b1, b2⟩ := ih2
  obtain ⟨y, l, ht, _⟩ := h1.head
  have hl1 : 0 < s.length := by rw [ht]; simp
  obtain ⟨A, hA⟩ : ∃ A : Nat → Int → Prop, A = fun k => if k ≤ b then G else if k < b + 1 + s.length then A1 k else A2 k := ⟨_, rfl⟩
  have A0 : A b = G := by rw [hA]; simp
  have As : ∀ k, b + 1 ≤ k → k < b + 1 + s.length → A k = A1 k := fun k h1 h2 => by rw [hA]; simp [show ¬ k ≤ b by omega, h2]
  have At : ∀ k, b + 1 + s.length ≤ k → A k = A2 k := fun k h1 => by rw [hA]; simp [show ¬ k ≤ b by omega, show ¬ k < b + 1 + s.length by omega]
  clear hA
  refine ⟨A, Avail.cons (by simpa [named, A0] using hc) (fun j hj r hr => ?_) ?_, fun r hr => by rw [A0] at hr; exact hr⟩
  ·have hj : j = b + 1 ∨ j = b + 1 + s.length := by simp [succs] at hj; omega
   rw [A0]
   rcases hj with rfl | rfl
   ·rw [As _ (Nat.le_refl _) (by omega)] at hr
    exact .inl (a2 r hr)
   ·rw [At _ (Nat.le_refl _)] at hr
    exact .inl (b2 r hr)
  ·intro i x hx
   by_cases hi : i < s.length
   ·rw [List.getElem?_append_left hi] at hx
    obtain ⟨g1, g2⟩ := a1 i x hx
    rw [As _ (by omega) (by omega)]
    refine ⟨g1, fun j hj r hr => g2 j hj r ?_⟩
    have hs := h1.within.at hx j hj
    rw [As j (by omega) (by omega)] at hr
    exact hr
   ·rw [List.getElem?_append_right (by omega)] at hx
    obtain ⟨g1, g2⟩ := b1 _ x hx
    rw [show b + 1 + s.length + (i - s.length) = b + 1 + i by omega] at g1 g2
    rw [At _ (by omega)]
    refine ⟨g1, fun j hj r hr => g2 j hj r ?_⟩
    have hs := h2.within.at hx j (by rw [show b + 1 + s.length + (i - s.length) = b + 1 + i by omega]; exact hj)
    rw [At j (by omega)] at hr
    exact hr
theorem FragE.need {G : Int → Prop} {s : List Ins} (h : FragE G 0 s) {r : Int} (hn : Live.Need s r 0) : G r := by
 obtain ⟨A, h1, h2⟩ := h.avail
 refine h2 r (hn.sub (S := fun k => A k r) (fun k x hx hr => ?_) (fun k x hx hg j hj hA => ?_))
 ·have := (h1 k x hx).1 r hr
  rwa [Nat.zero_add] at this
 ·have := (h1 k x hx).2 j (by rw [Nat.zero_add]; exact hj) r hA
  rw [Nat.zero_add] at this
  exact this.resolve_right fun e => hg e.symm
end Mk
end
section
open Go Go.RowKit
def IntsM (W : World) (S : Nat → Prop) (l : List Int) (v : Value) : Prop := SlC W W.heap.size 1 IntR l v ∧ ∀ b, v.ownBlock = some b → l ≠ [] → ¬ S b
def InsM (W : World) (S : Nat → Prop) (x : Ins) (cs : List Value) : Prop := ∃ sl, cs = [.int .i64 x.op, .int .i64 x.d, .int .i64 x.a, .int .i64 x.b, sl] ∧ I64 x.op ∧ I64 x.d ∧ I64 x.a ∧ I64 x.b ∧ IntsM W S x.l sl
theorem IntsM.kept {W W' : World} {S S' S'' : Nat → Prop} {l : List Int} {v : Value} (h : IntsM W S l v) (ht : Turned S'' W W') (h2 : ∀ b, b < W.heap.size → S'' b → S b) (hS : ∀ b, b < W.heap.size → S' b → S b) : IntsM W' S' l v := by
 obtain ⟨⟨o, len, cap, rfl, h1, h2', h3, h4⟩, h5⟩ := h
 by_cases hl : l = []
 ·subst hl
  refine ⟨⟨o, len, cap, rfl, h1, h2', h3, ?_⟩, fun _ _ h => absurd rfl h⟩
  cases o with
  | none => exact h4
  | some a => exact ⟨fun h => absurd rfl h, fun i x hx => by simp at hx⟩
 cases o with
 | none => exact absurd h4.1 hl
 | some a =>
  have hb := (h4.1 hl).2
  have hn := h5 a.block rfl hl
  refine ⟨⟨some a, len, cap, rfl, h1, h2', h3, fun _ => ⟨(h4.1 hl).1, Nat.lt_of_lt_of_le hb ht.size⟩, fun i x hx => ?_⟩, fun b hbb _ hs => ?_⟩
  ·obtain ⟨cs, g1, g2, g3⟩ := h4.2 i x hx
   refine ⟨cs, g1, fun j u hj => ?_, g3⟩
   have := g2 j u hj
   unfold World.cell? at this ⊢
   rw [ht.block a.block hb (fun hs => hn (h2 _ hb hs))]
   exact this
  ·have e : a.block = b := by simpa [Value.ownBlock] using hbb
   subst e
   exact hn (hS _ hb hs)
theorem InsM.kept {W W' : World} {S S' S'' : Nat → Prop} {x : Ins} {cs : List Value} (h : InsM W S x cs) (ht : Turned S'' W W') (h2 : ∀ b, b < W.heap.size → S'' b → S b) (hS : ∀ b, b < W.heap.size → S' b → S b) : InsM W' S' x cs := by
 obtain ⟨sl, a, b, c, d, e, f⟩ := h
 exact ⟨sl, a, b, c, d, e, f.kept ht h2 hS⟩
theorem IntsM.nil (W : World) (S : Nat → Prop) : IntsM W S [] (.slice none 0 0) := ⟨⟨none, 0, 0, rfl, rfl, by omega, by omega, rfl, rfl⟩, fun _ h => by simp [Value.ownBlock] at h⟩
theorem IntsM.of_row {W : World} {S : Nat → Prop} {base : Nat} {l : List Int} {v : Value} (h : W.ownsRow base 3 1 v l.length (l.map (Value.int .i64))) (hl : ∀ x ∈ l, I64 x) (hS : ∀ b, v.ownBlock = some b → ¬ S b) : IntsM W S l v := ⟨rowInts h hl, fun b hb _ => hS b hb⟩
theorem IntsM.drops {W : World} {S : Nat → Prop} {l : List Int} {b off len cap n : Nat} (h : IntsM W S l (.slice (some ⟨b, off, none⟩) len cap)) (hn : n ≤ len) : IntsM W S (l.drop n) (.slice (some ⟨b, off + n, none⟩) (len - n) (cap - n)) :=
 ⟨by simpa using h.1.drops hn, fun c hc hne => h.2 c (by simpa [Value.ownBlock] using hc) fun e => hne (by rw [e]; simp)⟩
theorem ownBlock_lt {W : World} {base n size c : Nat} {e : TypeId} {v : Value} {xs : List Value} (h : W.ownsRow base e size v n xs) (hc : v.ownBlock = some c) : c < W.heap.size := by
 obtain ⟨cs, f, hr⟩ := own_row h c hc
 exact (Array.getElem?_eq_some_iff.1 hr).1
theorem ownBlock_base {W : World} {base n size c : Nat} {e : TypeId} {v : Value} {xs : List Value} (h : W.ownsRow base e size v n xs) (hc : v.ownBlock = some c) : base ≤ c := by
 rcases h.2 with ⟨rfl, _⟩ | ⟨g, cap, cur, rfl, hb, _⟩
 ·simp [Value.ownBlock] at hc
 ·have e : g = c := by simpa [Value.ownBlock] using hc
  omega
theorem row_same {W W' : World} {base n size : Nat} {e : TypeId} {v : Value} {xs : List Value} (h : W.ownsRow base e size v n xs) (hb : ∀ c, v.ownBlock = some c → W'.heap[c]? = W.heap[c]?) : W'.ownsRow base e size v n xs := by
 refine ⟨h.1, ?_⟩
 rcases h.2 with h0 | ⟨g, cap, cur, rfl, h2, h3, h4⟩
 ·exact .inl h0
 ·exact .inr ⟨g, cap, cur, rfl, h2, (hb g rfl).trans h3, h4⟩
theorem IntsM.below {W W' : World} {S : Nat → Prop} {l : List Int} {v : Value} (h : IntsM W S l v) (hb : Below W.heap.size W W') : IntsM W' S l v := h.kept (Turned.of_below (S := fun _ => False) hb) (fun _ _ h => h.elim) (fun _ _ h => h)
end
end Go.Proofs.YtigkhmppnnljiaaGreatDoor

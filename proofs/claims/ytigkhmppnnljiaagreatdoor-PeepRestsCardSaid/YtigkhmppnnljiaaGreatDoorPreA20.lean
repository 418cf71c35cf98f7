/-
  What the proofs lean on: MkLaw, RIns.
-/
import Derived.Deep.LoopGhost
import Derived.Deep.QuietTactic
import Derived.BigQuiet
import Derived.Test.YtigkhmppnnljiaaGreatDoorPreA18
set_option maxRecDepth 100000
set_option maxHeartbeats 16000000
namespace Go.Proofs.YtigkhmppnnljiaaGreatDoor
section
namespace Trm
theorem addV_nil (S : Int → Bool) : addV S [] = S := by funext x; simp [addV]
theorem addV_append (S : Int → Bool) (a b : List Int) : addV S (a ++ b) = addV (addV S a) b := by funext x; simp [addV, Bool.or_assoc]
theorem newB_append (a b : List Int) : ∀ S : Int → Bool, newB S (a ++ b) = (newB S a && newB (addV S a) b) := by
 induction a with
 | nil => intro S; simp [newB, addV_nil]
 | cons x a ih => intro S; simp [newB, ih, Bool.and_assoc, ← addV_append]
theorem newB_iff : ∀ (l : List Int) (S : Int → Bool), newB S l = true ↔ (∀ x ∈ l, 0 ≤ x ∧ x ≤ 1000000 ∧ S x = false) ∧ l.Nodup := by
 intro l
 induction l with
 | nil => intro S; simp [newB]
 | cons x l ih =>
  intro S
  rw [newB, Bool.and_eq_true, ih]
  simp only [Bool.and_eq_true, decide_eq_true_eq, Bool.not_eq_true', List.mem_cons, forall_eq_or_imp, List.nodup_cons, addV, Bool.or_eq_false_iff, List.contains_eq_mem, List.not_mem_nil, or_false, decide_eq_false_iff_not]
  constructor
  ·rintro ⟨⟨h1, h2, h3⟩, h4, h5⟩
   exact ⟨⟨⟨h1, h2, h3⟩, fun y hy => ⟨(h4 y hy).1, (h4 y hy).2.1, (h4 y hy).2.2.1⟩⟩, fun hx => (h4 x hx).2.2.2 rfl, h5⟩
  ·rintro ⟨⟨⟨h1, h2, h3⟩, h4⟩, h5, h6⟩
   exact ⟨⟨h1, h2, h3⟩, fun y hy => ⟨(h4 y hy).1, (h4 y hy).2.1, (h4 y hy).2.2, fun e => h5 (e ▸ hy)⟩, h6⟩
theorem nodup_short : ∀ (N : Nat) (l : List Int), l.Nodup → (∀ x ∈ l, 0 ≤ x ∧ x < N) → l.length ≤ N
 | 0, l, _, h => by
  cases l with
  | nil => simp
  | cons x l => have := h x (by simp); omega
 | N + 1, l, hd, h => by
  have h1 := nodup_short N (l.erase (N : Int)) (hd.erase _) (fun x hx => by
   have := (hd.mem_erase_iff).1 hx
   have := h x this.2
   omega)
  have := List.le_length_erase (a := (N : Int)) (l := l)
  omega
theorem newB_short {S : Int → Bool} {l : List Int} (h : newB S l = true) : l.length ≤ 1000001 := by
 obtain ⟨h1, h2⟩ := (newB_iff l S).1 h
 exact nodup_short 1000001 l h2 fun x hx => by have := h1 x hx; omega
theorem all_pos : ∀ x : Trm, 1 ≤ x.all
 | mk _ _ _ t => by rw [all]; omega
theorem allL_length : ∀ l : List Trm, l.length ≤ allL l
 | [] => Nat.le_refl _
 | x :: l => by have := allL_length l; have := all_pos x; rw [allL, List.length_cons]; omega
end Trm
namespace Mk
theorem lkL_snoc (l : List (Int × Int)) (v r x : Int) : lkL (l ++ [(v, r)]) x = if x = v then r else lkL l x := by
 induction l with
 | nil => simp [lkL, eq_comm]
 | cons p l ih =>
  rw [List.cons_append, lkL, ih, lkL]
  by_cases h : x = v
  ·subst h; simp
  ·have hv : (v == x) = false := by simpa using Ne.symm h
   have e : (l ++ [(v, r)]).any (fun q => q.1 == x) = l.any (fun q => q.1 == x) := by rw [List.any_append]; simp [hv]
   rw [e]; simp [h]
def LkOk (lk : List (Int × Int) → Int → Int) : Prop := ∀ l v, lk l v = 0 ∨ ∃ p ∈ l, lk l v = p.2
theorem lkF_ok : LkOk lkF := by
 intro l v
 induction l with
 | nil => exact .inl rfl
 | cons p l ih =>
  rw [lkF]
  split
  ·exact .inr ⟨p, by simp, rfl⟩
  ·rcases ih with h | ⟨q, hq, h⟩
   ·exact .inl h
   ·exact .inr ⟨q, by simp [hq], h⟩
def Room (s : MSt) (k : Nat) : Prop := s.code.length + k ≤ 900000 ∧ 0 ≤ s.regs ∧ s.regs + k ≤ 1900000 ∧ (∀ p ∈ s.vars, 0 ≤ p.2 ∧ p.2 ≤ 1900000) ∧ s.vars.length + k ≤ 1900000
theorem Room.mono {s : MSt} {k k' : Nat} (h : Room s k) (hk : k' ≤ k) : Room s k' := ⟨by have := h.1; omega, h.2.1, by have := h.2.2.1; omega, h.2.2.2.1, by have := h.2.2.2.2; omega⟩
theorem Room.put {s : MSt} {k : Nat} (h : Room s (k + 1)) (x : Ins) : Room (s.put x) k := ⟨by have := h.1; simp [MSt.put]; omega, h.2.1, by have := h.2.2.1; simp only [MSt.put]; omega, h.2.2.2.1, by have := h.2.2.2.2; simp only [MSt.put]; omega⟩
theorem Room.fresh {s : MSt} {k : Nat} (h : Room s (k + 1)) : Room s.fresh k := ⟨by have := h.1; simp only [MSt.fresh]; omega, by have := h.2.1; simp only [MSt.fresh]; omega, by have := h.2.2.1; simp only [MSt.fresh]; omega, h.2.2.2.1, by have := h.2.2.2.2; simp only [MSt.fresh]; omega⟩
theorem Room.setA {s : MSt} {k : Nat} (h : Room s k) (j : Nat) (a : Int) : Room (s.setA j a) k := ⟨by simpa [MSt.setA] using h.1, h.2⟩
theorem Room.setB {s : MSt} {k : Nat} (h : Room s k) (j : Nat) (a : Int) : Room (s.setB j a) k := ⟨by simpa [MSt.setB] using h.1, h.2⟩
theorem Room.bind {s : MSt} {k : Nat} (v rs : List Int) (h : Room s (k + rs.length)) (hr : ∀ x ∈ rs, 0 ≤ x ∧ x ≤ 1900000) : Room (s.bind v rs) k := ⟨by have := h.1; simp only [MSt.bind]; omega, h.2.1, by have := h.2.2.1; simp only [MSt.bind]; omega, fun p hp => by
 rcases List.mem_append.1 hp with hp | hp
 ·exact h.2.2.2.1 p hp
 ·exact hr _ (List.of_mem_zip hp).2, by have := h.2.2.2.2; simp only [MSt.bind, List.length_append, List.length_zip]; omega⟩
theorem Room.lk {lk : List (Int × Int) → Int → Int} (hl : LkOk lk) {s : MSt} {k : Nat} (h : Room s k) (v : Int) : 0 ≤ lk s.vars v ∧ lk s.vars v ≤ 1900000 := by
 rcases hl s.vars v with h' | ⟨p, hp, h'⟩
 ·rw [h']; omega
 ·rw [h']; exact h.2.2.2.1 p hp
theorem Room.ite {c : Prop} [Decidable c] {a b : MSt} {k : Nat} (ha : Room a k) (hb : Room b k) : Room (if c then a else b) k := by split <;> assumption
theorem Room.strict {s : MSt} {k : Nat} (h : Room s (k + 2)) (op n d : Int) (l : List Int) : Room (strict op n d l s) k := by
 have h1 : ∀ x, Room (s.put x) k := fun x => Room.mono (k := k + 1) (Room.put (k := k + 1) h x) (by omega)
 unfold Mk.strict
 repeat' (refine Room.ite ?_ ?_)
 all_goals first | exact h1 _ | exact Room.put (k := k) (Room.put (k := k + 1) h _) _ | exact Room.mono (k := k + 2) h (by omega)
theorem Room.ended {s : MSt} {k : Nat} (h : Room s (k + 1)) (op n : Int) (l : List Int) : Room (ended op n l s) k := by
 unfold Mk.ended
 repeat' (refine Room.ite ?_ ?_)
 all_goals exact h.put _
theorem Room.fix1 : ∀ (v : List Int) (t : List Trm) {s : MSt} {k : Nat}, Room s (k + 3 * t.length) → Room (fix1 v t s) k
 | [], t, s, k, h => by
  rw [Mk.fix1]
  ·exact h.mono (by omega)
  ·simp
 | v :: vs, [], s, k, h => by
  rw [Mk.fix1]
  ·exact h.mono (by omega)
  ·simp
 | v :: vs, x :: l, s, k, h => by
  rw [Mk.fix1]
  simp only [List.length_cons] at h
  refine Room.fix1 vs l ?_
  have h2 : Room s (k + 3 * l.length + 1 + 1 + 1) := h.mono (by omega)
  refine (Room.bind [v] [s.regs] h2.fresh fun x hx => ?_).put _
  rw [List.mem_singleton.1 hx]
  have := h2.2.1
  have := h2.2.2.1
  omega
theorem Room.thens {f g : Int → Bool → MSt → MSt} {cf cg : Nat} (hf : ∀ (d : Int) (e : Bool) (s : MSt) (k : Nat), Room s (k + cf) → Room (f d e s) k) (hg : ∀ (d : Int) (e : Bool) (s : MSt) (k : Nat), Room s (k + cg) → Room (g d e s) k)
  (c d : Int) (e : Bool) {s : MSt} {k : Nat} (h : Room s (k + 2 + cf + cg)) : Room (thens f g c d e s) k := by
 have h1 := hf d e _ (k + cg + 1) (Room.put (h.mono (k' := k + cg + 1 + cf + 1) (by omega)) ⟨16, 0, c, 0, []⟩)
 unfold Mk.thens
 dsimp only
 cases e with
 | true => exact hg _ _ _ _ (Room.setB (h1.mono (by omega)) _ _)
 | false => exact Room.setA (hg _ _ _ _ (Room.setB (Room.put (h1.mono (by omega)) _) _ _)) _ _
theorem Room.had {lk : List (Int × Int) → Int → Int} (hl : LkOk lk) (x : Trm) (hx : ∀ (d : Int) (e : Bool) (s : MSt) (k : Nat), Room s (k + (6 * x.all - 2)) → Room (into lk x d e s) k) {s : MSt} {k : Nat} (h : Room s (k + (6 * x.all - 1))) :
  Room (hadW lk x.op x.n (into lk x) s).2 k ∧ 0 ≤ (hadW lk x.op x.n (into lk x) s).1 ∧ (hadW lk x.op x.n (into lk x) s).1 ≤ 1900000 := by
 have := x.all_pos
 unfold hadW
 split
 ·exact ⟨h.mono (by omega), h.lk hl _⟩
 ·refine ⟨hx _ _ _ _ (Room.fresh (h.mono (by omega))), h.2.1, by have := h.2.2.1; omega⟩
mutual
theorem Room.into {lk : List (Int × Int) → Int → Int} (hl : LkOk lk) : ∀ (x : Trm) (d : Int) (e : Bool) (s : MSt) (k : Nat), Room s (k + (6 * x.all - 2)) → Room (into lk x d e s) k
 | .mk op n v t, d, e, s, k, h => by
  rw [Trm.all] at h
  rw [Mk.into]
  split
  ·exact Room.choice hl t d e s k (h.mono (by omega))
  split
  ·exact Room.seqs hl t d e s k (h.mono (by omega))
  split
  ·exact Room.lets hl t v [] d e s k (h.mono (by simp only [List.length_nil]; omega)) (by simp)
  split
  ·have hk := Trm.allL_length t
   exact Room.fixs hl t v d e _ k (Room.fix1 v t (h.mono (by omega)))
  split
  ·split
   ·exact Room.ended (Room.allT hl t s (k + 1) (h.mono (by omega))).1 _ _ _
   ·split
    ·exact Room.put (h.mono (by omega)) _
    ·exact Room.put (Room.strict (Room.allT hl t s.fresh (k + 3) (Room.fresh (h.mono (by omega)))).1 _ _ _ _) _
  ·split
   ·exact Room.put (h.mono (by omega)) _
   ·exact Room.strict (Room.allT hl t s (k + 2) (h.mono (by omega))).1 _ _ _ _
theorem Room.choice {lk : List (Int × Int) → Int → Int} (hl : LkOk lk) : ∀ (l : List Trm) (d : Int) (e : Bool) (s : MSt) (k : Nat), Room s (k + 2 + 6 * Trm.allL l) → Room (choice lk l d e s) k
 | [a, b, x], d, e, s, k, h => by
  simp only [Trm.allL] at h
  rw [Mk.choice]
  have := a.all_pos
  have := b.all_pos
  have := x.all_pos
  exact Room.thens (cf := 6 * b.all - 2) (cg := 6 * x.all - 2) (fun d e s k h => Room.into hl b d e s k h) (fun d e s k h => Room.into hl x d e s k h) _ _ _ (Room.had hl a (Room.into hl a) (h.mono (by omega))).1
 | [], _, _, _, _, h => by rw [Mk.choice]; exact h.mono (by omega); all_goals simp
 | [_], _, _, _, _, h => by rw [Mk.choice]; exact h.mono (by omega); all_goals simp
 | [_, _], _, _, _, _, h => by rw [Mk.choice]; exact h.mono (by omega); all_goals simp
 | _ :: _ :: _ :: _ :: _, _, _, _, _, h => by rw [Mk.choice]; exact h.mono (by omega); all_goals simp
theorem Room.allT {lk : List (Int × Int) → Int → Int} (hl : LkOk lk) : ∀ (l : List Trm) (s : MSt) (k : Nat), Room s (k + 6 * Trm.allL l) → Room (allT lk l s).2 k ∧ ∀ x ∈ (allT lk l s).1, 0 ≤ x ∧ x ≤ 1900000
 | [], s, k, h => by rw [Mk.allT]; exact ⟨h, by simp⟩
 | x :: l, s, k, h => by
  simp only [Trm.allL] at h
  rw [Mk.allT]
  have h1 := Room.had hl x (Room.into hl x) (h.mono (k' := k + 6 * Trm.allL l + (6 * x.all - 1)) (by omega))
  have h2 := Room.allT hl l _ k h1.1
  refine ⟨h2.1, fun y hy => ?_⟩
  rcases List.mem_cons.1 hy with rfl | hy
  ·exact h1.2
  ·exact h2.2 y hy
theorem Room.seqs {lk : List (Int × Int) → Int → Int} (hl : LkOk lk) : ∀ (l : List Trm) (d : Int) (e : Bool) (s : MSt) (k : Nat), Room s (k + 6 * Trm.allL l) → Room (seqs lk l d e s) k
 | [], _, _, _, _, h => by rw [Mk.seqs]; exact h
 | [x], d, e, s, k, h => by
  simp only [Trm.allL] at h
  rw [Mk.seqs]
  exact Room.into hl x d e s k (h.mono (by omega))
 | x :: y :: l, d, e, s, k, h => by
  rw [Trm.allL] at h
  rw [Mk.seqs]
  exact Room.seqs hl (y :: l) d e _ k (Room.had hl x (Room.into hl x) (h.mono (by omega))).1
theorem Room.lets {lk : List (Int × Int) → Int → Int} (hl : LkOk lk) : ∀ (l : List Trm) (v rs : List Int) (d : Int) (e : Bool) (s : MSt) (k : Nat), Room s (k + 6 * Trm.allL l + rs.length) → (∀ x ∈ rs, 0 ≤ x ∧ x ≤ 1900000) → Room (lets lk l v rs d e s) k
 | [], _, _, _, _, _, _, h, _ => by rw [Mk.lets]; exact h.mono (by omega)
 | [x], v, rs, d, e, s, k, h, hr => by
  simp only [Trm.allL] at h
  rw [Mk.lets]
  exact Room.into hl x d e _ k (Room.bind v rs (h.mono (by omega)) hr)
 | x :: y :: l, v, rs, d, e, s, k, h, hr => by
  rw [Trm.allL] at h
  rw [Mk.lets]
  have := x.all_pos
  have h1 := Room.had hl x (Room.into hl x) (h.mono (k' := k + 6 * Trm.allL (y :: l) + (rs.length + 1) + (6 * x.all - 1)) (by omega))
  refine Room.lets hl (y :: l) v _ d e _ k (h1.1.mono (by simp)) fun z hz => ?_
  rcases List.mem_append.1 hz with hz | hz
  ·exact hr z hz
  ·rw [List.mem_singleton.1 hz]; exact h1.2
theorem Room.fixs {lk : List (Int × Int) → Int → Int} (hl : LkOk lk) : ∀ (l : List Trm) (v : List Int) (d : Int) (e : Bool) (s : MSt) (k : Nat), Room s (k + (6 * Trm.allL l - 5 * (l.length - 1))) → Room (fixs lk l v d e s) k
 | [], _, _, _, _, _, h => by rw [Mk.fixs]; exact h.mono (by simp)
 | [x], v, d, e, s, k, h => by
  simp only [Trm.allL, List.length_cons, List.length_nil] at h
  rw [Mk.fixs]
  exact Room.into hl x d e s k (h.mono (by omega))
 | .mk o m w t :: y :: l, v, d, e, s, k, h => by
  have hk := Trm.allL_length (y :: l)
  rw [Trm.allL, Trm.all] at h
  simp only [List.length_cons] at h hk
  rw [Mk.fixs]
  have h1 := Room.allT hl t s (k + (6 * Trm.allL (y :: l) - 5 * (l.length + 1 - 1)) + 1) (h.mono (by omega))
  exact Room.fixs hl (y :: l) v.tail d e _ k (Room.put h1.1 _)
end
end Mk
end
section
open Go.RowKit
theorem three_below (w : World) (X Y Z : Obj) : Below w.heap.size w (((w.alloc X).alloc Y).alloc Z) := (((Below.refl _ _).alloc (Nat.le_refl _) _).alloc (by simp) _).alloc (by simp; omega) _
theorem all_no {p : Int → Bool} {l : List Int} {j : Nat} {y : Int} (h : l[j]? = some y) (hy : p y = false) : l.all p = false := by
 rw [List.all_eq_false]; exact ⟨y, List.mem_of_getElem? h, by simp [hy]⟩
theorem all_snoc {p : Int → Bool} {l : List Int} {j : Nat} {y : Int} (h : l[j]? = some y) (ha : (l.take j).all p = true) (hy : p y = true) : (l.take (j + 1)).all p = true := by
 rw [List.take_add_one, h]; simp [List.all_append, ha, hy]
theorem ins_to (k d a b : Int) (l : List Int) (o : Option Addr) (len cap : Nat) (args regs : Int) (rest : Bool) (oc oa ok op : Option Addr) (lc cc la ca lk ck lp cp : Nat) (B : Nat) (w : World) (hk : -9223372036854775808 ≤ k ∧ k ≤ 9223372036854775807) (hd : -9223372036854775808 ≤ d ∧ d ≤ 9223372036854775807) (ha : -9223372036854775808 ≤ a ∧ a ≤ 9223372036854775807) (hb : -9223372036854775808 ≤ b ∧ b ≤ 9223372036854775807) (hv : SlC w B 1 IntR l (.slice o len cap)) (hB : B ≤ w.heap.size) (hmx : l.length ≤ 1000000) (r : Bool) (hr : Unt.ins ⟨k, d, a, b, l⟩ regs lc lp lk = r) :
  Calls Tryz.prog 36 #[.agg #[.int .i64 k, .int .i64 d, .int .i64 a, .int .i64 b, .slice o len cap], .agg #[.int .i64 args, .bool rest, .int .i64 regs, .slice oc lc cc, .slice oa la ca], .agg #[.slice ok lk ck, .slice op lp cp]] w fun e w' => e = .returned (.bool r) ∧ Below w.heap.size w w' := by
 by_cases k0 : k < 0
 ·obtain rfl : false = r := by rw [← hr]; simp [Unt.ins, Unt.isOp]; omega
  have f0 : decide (k < 0) = true := decide_eq_true k0
  clear hr hv
  go_enter Tryz.func36, Tryz.ntmps36
  go_wp2_with fail
  go_ret
  exact ⟨rfl, three_below _ _ _ _⟩
 by_cases k22 : 22 < k
 ·obtain rfl : false = r := by rw [← hr]; simp [Unt.ins, Unt.isOp]; omega
  have f0 : decide (k < 0) = false := decide_eq_false k0
  have f1 : decide (22 < k) = true := decide_eq_true k22
  clear hr hv
  go_enter Tryz.func36, Tryz.ntmps36
  go_wp2_with fail
  go_ret
  exact ⟨rfl, three_below _ _ _ _⟩
 have f0 : decide (k < 0) = false := decide_eq_false k0
 have f1 : decide (22 < k) = false := decide_eq_false k22
 obtain ⟨g, hg⟩ : ∃ g, Unt.gives ⟨k, d, a, b, l⟩ = g := ⟨_, rfl⟩
 obtain ⟨q, hq⟩ : ∃ q, Unt.bare ⟨k, d, a, b, l⟩ = q := ⟨_, rfl⟩
 obtain ⟨nl, hnl⟩ : ∃ nl, Unt.named ⟨k, d, a, b, l⟩ = nl := ⟨_, rfl⟩
 obtain ⟨rT, hT⟩ : ∃ rT, Unt.tailOk ⟨k, d, a, b, l⟩ lc lp lk = rT := ⟨_, rfl⟩
 have HR := Lib.hid (show (q && (nl.all (Unt.below · regs) && (!(decide (regs ≤ g) || (decide (g < -1) || decide (d < 0))) && rT))) = r from by
  rw [← hr, Unt.ins, hg, hq, hnl, hT, show Unt.isOp k = true from by simp [Unt.isOp]; omega]; rfl)
 have HT := Lib.hid hT
 have HG := Lib.hid hg
 have HNL := Lib.hid hnl
 have HV := Lib.hid hv
 have HBA := Lib.hid (fun X Y Z => bare_to k d a b l o len cap B (((w.alloc X).alloc Y).alloc Z) hk hd ha hb (hv.kept ((three_below w X Y Z).mono hB) fun _ _ _ h => h) (by simp; omega) hmx (by omega) (by omega) q hq)
 have HNM := Lib.hid (fun W (hW : Below w.heap.size w W) => named_any ⟨k, d, a, b, l⟩ _ _ _ _ _ B W ⟨.slice o len cap, rfl, hk, hd, ha, hb, hv.kept (hW.mono hB) fun _ _ _ h => h⟩ (by have := hW.size; omega) hmx (by dsimp only; omega) (by dsimp only; omega))
 clear hr hv hg hq hnl hT
 go_enter Tryz.func36, Tryz.ntmps36
 go_wp2_with fail
 refine (HBA.out _ _ _).mono ?_
 rintro e w1 ⟨rfl, hb1⟩
 obtain ⟨bx, bp, bu, hb⟩ := three_boxes hb1
 have HB1 := Lib.hid hb
 clear hb1 hb HBA
 cases q with
 | false =>
  obtain rfl : r = false := by rw [← HR.out]; rfl
  go_wp2_with fail
  go_ret
  exact ⟨rfl, HB1.out⟩
 | true =>
  have x0 := bx.cell 0 rfl
  have x1 := bx.cell 1 rfl
  have x2 := bx.cell 2 rfl
  have x3 := bx.cell 3 rfl
  have x4 := bx.cell 4 rfl
  go_wp2_with fail
  refine (HNM.out _ HB1.out).mono ?_
  rintro e w2 ⟨sl, rfl, hs, hb2⟩
  rw [HNL.out] at hs
  rw [HG.out]
  obtain ⟨o2, n2, c2, rfl⟩ := hs.form
  obtain ⟨hn2, hc2, hm2⟩ := hs.lens
  have HN2 := Lib.hid hn2
  have HS := Lib.hid hs
  have HB2 := Lib.hid (Below.next HB1.out hb2)
  have bx2 := bx.keep hb2
  have bp2 := bp.keep hb2
  have bu2 := bu.keep hb2
  have HX := Lib.hid bx2
  have HP := Lib.hid bp2
  have HU := Lib.hid bu2
  clear hn2 hs hb2 bx bp bu bx2 bp2 bu2 HNM x0 x1 x2 x3 x4
  go_wp2_with fail
  go_loopg [9] n2 (fun g i wr => ∃ j : Nat, g = n2 - j ∧ j ≤ n2 ∧ i = .int .i64 j ∧ Hid ((nl.take j).all (Unt.below · regs) = true) ∧ ∃ nd, wr = w2.drewN nd)
  case atStart => exact ⟨0, rfl, by omega, rfl, rfl, 0, rfl⟩
  case round =>
   obtain ⟨j, rfl, hj, rfl, HA, nd, rfl⟩ := hrel
   by_cases hjl : j < n2
   ·obtain ⟨y, hy⟩ : ∃ y, nl[j]? = some y := ⟨_, List.getElem?_eq_getElem (by rw [← HN2.out]; exact hjl)⟩
    obtain ⟨b2, off2, cs, ho2, _, _, hcell, hR⟩ := HS.out.at (Below.refl _ _) hy
    subst ho2
    obtain ⟨rfl, _⟩ := hR
    have e0 := hcell 0 _ rfl
    rw [Nat.mul_one, Nat.add_zero] at e0
    have e1 : w2.cell? ⟨b2, off2 + j, none⟩ = some (.int .i64 y) := e0
    have p2 : w2.cell? ⟨w.heap.size + 1, 2, none⟩ = some (.int .i64 regs) := HP.out.cell 2 rfl
    have HY := Lib.hid hy
    clear hy hcell e0
    by_cases y0 : y < 0
    ·have g0 : decide (y < 0) = true := decide_eq_true y0
     obtain rfl : r = false := by rw [← HR.out, all_no HY.out (by simp [Unt.below]; omega)]; rfl
     go_wp2_with fail
     go_quiet (fail)
     go_wp2_with fail
     go_ret
     exact ⟨rfl, Below.drewN (Below.drewN HB2.out _) _⟩
    have g0 : decide (y < 0) = false := decide_eq_false y0
    by_cases y1 : regs ≤ y
    ·have g1 : decide (regs ≤ y) = true := decide_eq_true y1
     obtain rfl : r = false := by rw [← HR.out, all_no HY.out (by simp [Unt.below]; omega)]; rfl
     go_wp2_with fail
     go_quiet (fail)
     go_wp2_with fail
     go_ret
     exact ⟨rfl, Below.drewN (Below.drewN HB2.out _) _⟩
    have g1 : decide (regs ≤ y) = false := decide_eq_false y1
    have HA2 := Lib.hid (all_snoc HY.out HA.out (show Unt.below y regs = true from by simp [Unt.below]; omega))
    go_wp2_with fail
    go_quiet (fail)
    go_wp2_with fail
    go_roundg (n2 - (j + 1))
    case measure => omega
    case rel => exact ⟨j + 1, rfl, by omega, by go_num, HA2, _, rfl⟩
   ·obtain rfl : j = n2 := by omega
    have HAL := Lib.hid (show nl.all (Unt.below · regs) = true from by rw [← HA.out, List.take_of_length_le (by rw [← HN2.out]; exact Nat.le_refl _)])
    rw [HAL.out] at HR
    have x0 : w2.cell? ⟨w.heap.size, 0, none⟩ = some (.int .i64 k) := HX.out.cell 0 rfl
    have x1 : w2.cell? ⟨w.heap.size, 1, none⟩ = some (.int .i64 d) := HX.out.cell 1 rfl
    have x2 : w2.cell? ⟨w.heap.size, 2, none⟩ = some (.int .i64 a) := HX.out.cell 2 rfl
    have x3 : w2.cell? ⟨w.heap.size, 3, none⟩ = some (.int .i64 b) := HX.out.cell 3 rfl
    have p2 : w2.cell? ⟨w.heap.size + 1, 2, none⟩ = some (.int .i64 regs) := HP.out.cell 2 rfl
    have p3 : w2.cell? ⟨w.heap.size + 1, 3, none⟩ = some (.slice oc lc cc) := HP.out.cell 3 rfl
    have u0 : w2.cell? ⟨w.heap.size + 1 + 1, 0, none⟩ = some (.slice ok lk ck) := HU.out.cell 0 rfl
    have u1 : w2.cell? ⟨w.heap.size + 1 + 1, 1, none⟩ = some (.slice op lp cp) := HU.out.cell 1 rfl
    have HBE := Lib.hid (Below.drewN HB2.out nd)
    by_cases c1 : regs ≤ g
    ·have h1 : decide (regs ≤ g) = true := decide_eq_true c1
     obtain rfl : r = false := by rw [← HR.out, h1]; simp
     go_wp2_with fail
     go_ret
     exact ⟨rfl, HBE.out⟩
    have h1 : decide (regs ≤ g) = false := decide_eq_false c1
    by_cases c2 : g < -1
    ·have h2 : decide (g < -1) = true := decide_eq_true c2
     obtain rfl : r = false := by rw [← HR.out, h2]; simp
     go_wp2_with fail
     go_ret
     exact ⟨rfl, HBE.out⟩
    have h2 : decide (g < -1) = false := decide_eq_false c2
    by_cases c3 : d < 0
    ·have h3 : decide (d < 0) = true := decide_eq_true c3
     obtain rfl : r = false := by rw [← HR.out, h3]; simp
     go_wp2_with fail
     go_ret
     exact ⟨rfl, HBE.out⟩
    have h3 : decide (d < 0) = false := decide_eq_false c3
    obtain rfl : rT = r := by rw [← HR.out, h1, h2, h3]; rfl
    by_cases k0' : k = 0
    ·subst k0'
     by_cases z0 : 0 ≤ a
     ·have s0 : decide (0 ≤ a) = true := decide_eq_true z0
      by_cases z1 : a < (lk : Int)
      ·have s1 : decide (a < (lk : Int)) = true := decide_eq_true z1
       obtain rfl : rT = true := by rw [← HT.out]; simp [Unt.tailOk, Unt.below]; omega
       go_wp2_with fail
       go_ret
       exact ⟨rfl, HBE.out⟩
      ·have s1 : decide (a < (lk : Int)) = false := decide_eq_false z1
       obtain rfl : rT = false := by rw [← HT.out]; simp [Unt.tailOk, Unt.below]; omega
       go_wp2_with fail
       go_ret
       exact ⟨rfl, HBE.out⟩
     ·have s0 : decide (0 ≤ a) = false := decide_eq_false z0
      obtain rfl : rT = false := by rw [← HT.out]; simp [Unt.tailOk, Unt.below]; omega
      go_wp2_with fail
      go_ret
      exact ⟨rfl, HBE.out⟩
    have t0 : (k == 0) = false := by simpa using k0'
    by_cases k2' : k = 2
    ·subst k2'
     by_cases z0 : 0 ≤ a
     ·have s0 : decide (0 ≤ a) = true := decide_eq_true z0
      by_cases z1 : a ≤ 30
      ·have s1 : decide (a ≤ 30) = true := decide_eq_true z1
       obtain rfl : rT = true := by rw [← HT.out]; simp [Unt.tailOk, Unt.below]; omega
       go_wp2_with fail
       go_ret
       exact ⟨rfl, HBE.out⟩
      ·have s1 : decide (a ≤ 30) = false := decide_eq_false z1
       obtain rfl : rT = false := by rw [← HT.out]; simp [Unt.tailOk, Unt.below]; omega
       go_wp2_with fail
       go_ret
       exact ⟨rfl, HBE.out⟩
     ·have s0 : decide (0 ≤ a) = false := decide_eq_false z0
      obtain rfl : rT = false := by rw [← HT.out]; simp [Unt.tailOk, Unt.below]; omega
      go_wp2_with fail
      go_ret
      exact ⟨rfl, HBE.out⟩
    have t2 : (k == 2) = false := by simpa using k2'
    by_cases k9' : k = 9
    ·subst k9'
     by_cases z0 : 0 ≤ a
     ·have s0 : decide (0 ≤ a) = true := decide_eq_true z0
      by_cases z1 : a ≤ 30
      ·have s1 : decide (a ≤ 30) = true := decide_eq_true z1
       obtain rfl : rT = true := by rw [← HT.out]; simp [Unt.tailOk, Unt.below]; omega
       go_wp2_with fail
       go_ret
       exact ⟨rfl, HBE.out⟩
      ·have s1 : decide (a ≤ 30) = false := decide_eq_false z1
       obtain rfl : rT = false := by rw [← HT.out]; simp [Unt.tailOk, Unt.below]; omega
       go_wp2_with fail
       go_ret
       exact ⟨rfl, HBE.out⟩
     ·have s0 : decide (0 ≤ a) = false := decide_eq_false z0
      obtain rfl : rT = false := by rw [← HT.out]; simp [Unt.tailOk, Unt.below]; omega
      go_wp2_with fail
      go_ret
      exact ⟨rfl, HBE.out⟩
    have t9 : (k == 9) = false := by simpa using k9'
    by_cases k5' : k = 5
    ·subst k5'
     by_cases z0 : 0 ≤ a
     ·have s0 : decide (0 ≤ a) = true := decide_eq_true z0
      by_cases z1 : a < (lp : Int)
      ·have s1 : decide (a < (lp : Int)) = true := decide_eq_true z1
       obtain rfl : rT = true := by rw [← HT.out]; simp [Unt.tailOk, Unt.below]; omega
       go_wp2_with fail
       go_ret
       exact ⟨rfl, HBE.out⟩
      ·have s1 : decide (a < (lp : Int)) = false := decide_eq_false z1
       obtain rfl : rT = false := by rw [← HT.out]; simp [Unt.tailOk, Unt.below]; omega
       go_wp2_with fail
       go_ret
       exact ⟨rfl, HBE.out⟩
     ·have s0 : decide (0 ≤ a) = false := decide_eq_false z0
      obtain rfl : rT = false := by rw [← HT.out]; simp [Unt.tailOk, Unt.below]; omega
      go_wp2_with fail
      go_ret
      exact ⟨rfl, HBE.out⟩
    have t5 : (k == 5) = false := by simpa using k5'
    by_cases k7' : k = 7
    ·subst k7'
     by_cases z0 : 0 ≤ a
     ·have s0 : decide (0 ≤ a) = true := decide_eq_true z0
      by_cases z1 : a < (lp : Int)
      ·have s1 : decide (a < (lp : Int)) = true := decide_eq_true z1
       obtain rfl : rT = true := by rw [← HT.out]; simp [Unt.tailOk, Unt.below]; omega
       go_wp2_with fail
       go_ret
       exact ⟨rfl, HBE.out⟩
      ·have s1 : decide (a < (lp : Int)) = false := decide_eq_false z1
       obtain rfl : rT = false := by rw [← HT.out]; simp [Unt.tailOk, Unt.below]; omega
       go_wp2_with fail
       go_ret
       exact ⟨rfl, HBE.out⟩
     ·have s0 : decide (0 ≤ a) = false := decide_eq_false z0
      obtain rfl : rT = false := by rw [← HT.out]; simp [Unt.tailOk, Unt.below]; omega
      go_wp2_with fail
      go_ret
      exact ⟨rfl, HBE.out⟩
    have t7 : (k == 7) = false := by simpa using k7'
    by_cases k18' : k = 18
    ·subst k18'
     by_cases z0 : 0 ≤ a
     ·have s0 : decide (0 ≤ a) = true := decide_eq_true z0
      by_cases z1 : a < (lp : Int)
      ·have s1 : decide (a < (lp : Int)) = true := decide_eq_true z1
       obtain rfl : rT = true := by rw [← HT.out]; simp [Unt.tailOk, Unt.below]; omega
       go_wp2_with fail
       go_ret
       exact ⟨rfl, HBE.out⟩
      ·have s1 : decide (a < (lp : Int)) = false := decide_eq_false z1
       obtain rfl : rT = false := by rw [← HT.out]; simp [Unt.tailOk, Unt.below]; omega
       go_wp2_with fail
       go_ret
       exact ⟨rfl, HBE.out⟩
     ·have s0 : decide (0 ≤ a) = false := decide_eq_false z0
      obtain rfl : rT = false := by rw [← HT.out]; simp [Unt.tailOk, Unt.below]; omega
      go_wp2_with fail
      go_ret
      exact ⟨rfl, HBE.out⟩
    have t18 : (k == 18) = false := by simpa using k18'
    by_cases k20' : k = 20
    ·subst k20'
     by_cases z0 : 0 ≤ a
     ·have s0 : decide (0 ≤ a) = true := decide_eq_true z0
      by_cases z1 : a < (lp : Int)
      ·have s1 : decide (a < (lp : Int)) = true := decide_eq_true z1
       obtain rfl : rT = true := by rw [← HT.out]; simp [Unt.tailOk, Unt.below]; omega
       go_wp2_with fail
       go_ret
       exact ⟨rfl, HBE.out⟩
      ·have s1 : decide (a < (lp : Int)) = false := decide_eq_false z1
       obtain rfl : rT = false := by rw [← HT.out]; simp [Unt.tailOk, Unt.below]; omega
       go_wp2_with fail
       go_ret
       exact ⟨rfl, HBE.out⟩
     ·have s0 : decide (0 ≤ a) = false := decide_eq_false z0
      obtain rfl : rT = false := by rw [← HT.out]; simp [Unt.tailOk, Unt.below]; omega
      go_wp2_with fail
      go_ret
      exact ⟨rfl, HBE.out⟩
    have t20 : (k == 20) = false := by simpa using k20'
    by_cases k6' : k = 6
    ·subst k6'
     have s0 : decide (0 ≤ a) = rT := by rw [← HT.out]; simp [Unt.tailOk]
     go_wp2_with fail
     go_ret
     exact ⟨rfl, HBE.out⟩
    have t6 : (k == 6) = false := by simpa using k6'
    by_cases k15' : k = 15
    ·subst k15'
     by_cases z0 : 0 ≤ a
     ·have s0 : decide (0 ≤ a) = true := decide_eq_true z0
      by_cases z1 : a < (lc : Int)
      ·have s1 : decide (a < (lc : Int)) = true := decide_eq_true z1
       obtain rfl : rT = true := by rw [← HT.out]; simp [Unt.tailOk, Unt.below]; omega
       go_wp2_with fail
       go_ret
       exact ⟨rfl, HBE.out⟩
      ·have s1 : decide (a < (lc : Int)) = false := decide_eq_false z1
       obtain rfl : rT = false := by rw [← HT.out]; simp [Unt.tailOk, Unt.below]; omega
       go_wp2_with fail
       go_ret
       exact ⟨rfl, HBE.out⟩
     ·have s0 : decide (0 ≤ a) = false := decide_eq_false z0
      obtain rfl : rT = false := by rw [← HT.out]; simp [Unt.tailOk, Unt.below]; omega
      go_wp2_with fail
      go_ret
      exact ⟨rfl, HBE.out⟩
    have t15 : (k == 15) = false := by simpa using k15'
    by_cases k16' : k = 16
    ·subst k16'
     by_cases z0 : 0 ≤ b
     ·have s0 : decide (0 ≤ b) = true := decide_eq_true z0
      by_cases z1 : b < (lc : Int)
      ·have s1 : decide (b < (lc : Int)) = true := decide_eq_true z1
       obtain rfl : rT = true := by rw [← HT.out]; simp [Unt.tailOk, Unt.below]; omega
       go_wp2_with fail
       go_ret
       exact ⟨rfl, HBE.out⟩
      ·have s1 : decide (b < (lc : Int)) = false := decide_eq_false z1
       obtain rfl : rT = false := by rw [← HT.out]; simp [Unt.tailOk, Unt.below]; omega
       go_wp2_with fail
       go_ret
       exact ⟨rfl, HBE.out⟩
     ·have s0 : decide (0 ≤ b) = false := decide_eq_false z0
      obtain rfl : rT = false := by rw [← HT.out]; simp [Unt.tailOk, Unt.below]; omega
      go_wp2_with fail
      go_ret
      exact ⟨rfl, HBE.out⟩
    have t16 : (k == 16) = false := by simpa using k16'
    by_cases k21' : k = 21
    ·subst k21'
     by_cases a29 : a = 29
     ·subst a29
      obtain rfl : rT = true := by rw [← HT.out]; simp [Unt.tailOk]
      go_wp2_with fail
      go_ret
      exact ⟨rfl, HBE.out⟩
     have s29 : (a == 29) = false := by simpa using a29
     by_cases a30 : a = 30
     ·subst a30
      obtain rfl : rT = true := by rw [← HT.out]; simp [Unt.tailOk]
      go_wp2_with fail
      go_ret
      exact ⟨rfl, HBE.out⟩
     have s30 : (a == 30) = false := by simpa using a30
     obtain rfl : rT = false := by rw [← HT.out]; simp [Unt.tailOk, a29, a30]
     go_wp2_with fail
     go_ret
     exact ⟨rfl, HBE.out⟩
    have t21 : (k == 21) = false := by simpa using k21'
    obtain rfl : rT = true := by rw [← HT.out]; simp [Unt.tailOk, k0', k2', k9', k5', k7', k18', k20', k6', k15', k16', k21']
    go_wp2_with fail
    go_ret
    exact ⟨rfl, HBE.out⟩
end
end Go.Proofs.YtigkhmppnnljiaaGreatDoor

/-
  What the proofs lean on: Sols.
-/
import Derived.Deep.AppendLies
import Derived.Test.YtigkhmppnnljiaaGreatDoorLsoA10
import Derived.Test.YtigkhmppnnljiaaGreatDoorLsoA16
import Derived.Test.YtigkhmppnnljiaaGreatDoorLsoA18
import Derived.Test.YtigkhmppnnljiaaGreatDoorLsoA19
set_option maxRecDepth 100000
set_option maxHeartbeats 16000000
namespace Go.Proofs.YtigkhmppnnljiaaGreatDoor
section
open Go
def InvPost (I : Array Bool → Act → World → Prop) (listed : Array Bool) (i : Nat) (o : Oper) (a : Act) (e : Exit) (a' : Act) (w' : World) : Prop := e = .normal ∧ ∃ v, a' = a.put o.dst v ∧ I (listed.setIfInBounds i true) a' w'
theorem wp_region_inv {P : Program} {id : Nat} {Q : Exit → Act → World → Prop} {a0 : Act} {w : World} {l : List Oper} (n : Nat) (I : Array Bool → Act → World → Prop) (hm : P.follows .mixedOrders = true) (hB : monoB l.toArray n a0.tmps.size = true)
  (h0 : I (Array.replicate l.toArray.size false) a0 w.drew)
  (hops : ∀ i o, i < n → l.toArray[i]? = some o → ∀ (listed : Array Bool) (a : Act) (w1 : World), listed.size = l.toArray.size → a.defers = a0.defers → a.tmps.size = a0.tmps.size → Rest l.toArray n a0 a → I listed a w1 → listed.getD i false = false → (∀ e ∈ o.after, Region.binds .any e = true → listed.getD e.on false = true) →
   wpList P l.toArray (InvPost I listed i o a) [o] a w1)
  (hend : ∀ (listed : Array Bool) (a : Act) (w1 : World), (∀ i, i < n → listed.getD i false = true) → a.defers = a0.defers → a.tmps.size = a0.tmps.size → Rest l.toArray n a0 a → I listed a w1 → wpList P l.toArray Q (l.drop n) a w1) :
  (Code.region id l.toArray true).wp P Q a0 w := by
 simp only [monoB, monoG, Bool.and_eq_true, decide_eq_true_eq] at hB
 obtain ⟨⟨h1, h2, h3, h4, h5, h6⟩, h7⟩ := hB
 refine wp_region_any hm ?_
 have inv0 : HeadInv .any l.toArray n (Array.replicate l.toArray.size false) :=
  ⟨by simp, fun j oj _ hl => (by rw [getD_replicate_false] at hl; cases hl), fun t _ ht => getD_in (by simpa using ht) (getD_replicate_false _ _)⟩
 have hcount : ((List.range n).filter fun i => !(Array.replicate l.toArray.size false).getD i true).length = n := by
  rw [List.filter_eq_self.2]
  ·simp
  ·intro i hi
   have : i < l.toArray.size := by have := List.mem_range.1 hi; omega
   have h' : i < l.length := by simpa using this
   simp [h']
 have := any_inv (P := P) (Q := Q) (g := l.toArray.size - n) (I := fun listed a w => listed.size = l.toArray.size ∧ a.defers = a0.defers ∧ a.tmps.size = a0.tmps.size ∧ Rest l.toArray n a0 a ∧ I listed a w) h1 h2 h3 h4 ?_ ?_ n _ a0 w.drew hcount inv0
  ⟨by simp, rfl, rfl, fun _ _ => rfl, h0⟩
 ·rwa [show n + (l.toArray.size - n) = l.toArray.size by omega] at this
 ·rintro listed a w1 i ⟨hls, hdf, hsz, hrest, hI⟩ hi hr
  obtain ⟨hun, o, ho, hdeps⟩ := mem_ready.1 hr
  unfold wpOp
  simp only [ho]
  have hg : Region.wanted o (yielded l.toArray a.tmps) = true := wanted_of (R := fun _ _ _ => True) (w := w1) h7 (fun _ h => by cases h) hi ho (by rw [hsz]; exact Nat.le_refl _) (fun _ _ _ _ _ _ _ => trivial)
  rw [if_pos hg]
  left
  refine Oper.wp_mono ?_ (wp_of_list (ops := l.toArray) hg (hops i o hi ho listed a w1 hls hdf hsz hrest hI (by
   have hlt : i < listed.size := by rw [hls]; omega
   simpa [hlt] using hun) hdeps))
  rintro a' w' ⟨v, rfl, hI'⟩
  refine ⟨by simpa using hls, ?_, ?_, ?_, hI'⟩
  ·cases o.dst <;> exact hdf
  ·cases hdst : o.dst with
   | none => exact hsz
   | some d => simpa [Act.put] using hsz
  ·intro t ht
   cases hdst : o.dst with
   | none => exact hrest t ht
   | some d' =>
    have hd' : d' < a.tmps.size := by
     have g1 := List.all_eq_true.1 (List.all_eq_true.1 h5 i (List.mem_range.2 hi)) i (List.mem_range.2 hi)
     simp only [ho, hdst, Bool.and_eq_true, decide_eq_true_eq] at g1
     rw [hsz]; exact g1.1
    rw [put_getD hd', if_neg ?_]
    ·exact hrest t ht
    ·rintro rfl; exact ht i o hi ho hdst
 ·rintro listed a w1 ⟨hls, hdf, hsz, hrest, hI⟩ inv hall
  have hdl : (l.drop n).length = l.toArray.size - n := by simp
  have g := wpAny_of_seq (md := .any) (Q' := Q) (l.drop n) n listed a w1 (fun j => by simp [List.getElem?_drop]) (by rw [hdl, headDone_eq h4 inv hall]; exact h6)
   (hend listed a w1 (fun i hi => by
    have := hall i hi
    have hlt : i < listed.size := by rw [hls]; omega
    simpa [hlt] using this) hdf hsz hrest hI)
  rwa [hdl] at g
end
section
open Go.RowKit
abbrev hdV (n b : Nat) : Value := .slice (some ⟨b, 0, none⟩) n n
def Fam (W : World) (H n : Nat) (L : List Nat) (P : Nat → Nat → Bool) : Prop := L.Nodup ∧ ∀ b ∈ L, H ≤ b ∧ SetW W b n (P b)
def Sol (w : World) (n : Nat) (W : World) (va vb : Value) (A B : List Nat) (P : Nat → Nat → Bool) : Prop :=
 Below w.heap.size w W ∧ W.ownsRow w.heap.size 128 1 va A.length (A.map (hdV n)) ∧ W.ownsRow w.heap.size 128 1 vb B.length (B.map (hdV n)) ∧ (va.ownBlock = none ∨ va.ownBlock ≠ vb.ownBlock) ∧ Fam W w.heap.size n (A ++ B) P
theorem Fam.keep {W W' : World} {H n : Nat} {L : List Nat} {P : Nat → Nat → Bool} (h : Fam W H n L P) (hb : Below W.heap.size W W') : Fam W' H n L P := ⟨h.1, fun b hm => ⟨(h.2 b hm).1, (h.2 b hm).2.keep hb⟩⟩
theorem Sol.keep {w : World} {n : Nat} {W W' : World} {va vb : Value} {A B : List Nat} {P : Nat → Nat → Bool} (h : Sol w n W va vb A B P) (hb : Below W.heap.size W W') : Sol w n W' va vb A B P :=
 ⟨Below.next h.1 hb, ownsRow_keep h.2.1 hb, ownsRow_keep h.2.2.1 hb, h.2.2.2.1, h.2.2.2.2.keep hb⟩
theorem row_set_apart {W : World} {base n b m : Nat} {v : Value} {xs : List Value} {P : Nat → Bool} (h : W.ownsRow base 128 1 v m xs) (hs : SetW W b n P) : v.ownBlock = none ∨ v.ownBlock ≠ some b := by
 rcases h.2 with ⟨rfl, _⟩ | ⟨g, cap, cur, rfl, _, hg, _⟩
 ·exact .inl rfl
 ·right
  intro e
  simp only [Value.ownBlock, Option.some.injEq] at e
  subst e
  obtain ⟨_, ⟨c, hc, _⟩, _⟩ := hs
  rw [hg] at hc
  simp only [Option.some.injEq, Obj.cells.injEq] at hc
  exact absurd hc.2.1 (by decide)
theorem Sol.one {w : World} {n : Nat} {W W' : World} {va vb : Value} {A B : List Nat} {P : Nat → Nat → Bool} (h : Sol w n W va vb A B P) {b : Nat} {Q : Nat → Bool} (hb : b ∈ A ++ B) (hg : W.grownBy W' (some b)) (hs : SetW W' b n Q) : Sol w n W' va vb A B (fun x => if x = b then Q else P x) := by
 obtain ⟨h1, h2, h3, h4, h5⟩ := h
 have hS := (h5.2 b hb).2
 refine ⟨h1.grown hg h1.size (fun g e => by simp at e; subst e; exact (h5.2 b hb).1), h2.kept hg (row_set_apart h2 hS), h3.kept hg (row_set_apart h3 hS), h4, h5.1, fun x hx => ⟨(h5.2 x hx).1, ?_⟩⟩
 dsimp only
 by_cases e : x = b
 ·subst e; rw [if_pos rfl]; exact hs
 ·rw [if_neg e]; exact (h5.2 x hx).2.grown hg (by simpa using e)
theorem hdr_at {W : World} {base n k b : Nat} {v : Value} {A : List Nat} (h : W.ownsRow base 128 1 v A.length (A.map (hdV n))) (hk : A[k]? = some b) : ∃ g cap, v = .slice (some ⟨g, 0, none⟩) A.length cap ∧ W.cell? ⟨g, k, none⟩ = some (hdV n b) ∧ g < W.heap.size := by
 have hlt := (List.getElem?_eq_some_iff.1 hk).1
 rcases h.2 with ⟨rfl, h0⟩ | ⟨g, cap, cur, rfl, _, hg, _, _, _, htk⟩
 ·omega
 ·refine ⟨g, cap, rfl, ?_, (Array.getElem?_eq_some_iff.1 hg).1⟩
  unfold World.cell?
  simp only [hg]
  have h1 : (A.map (hdV n))[k]? = some (hdV n b) := by simp [hk]
  rw [← htk, List.getElem?_take] at h1
  split at h1
  ·simpa using h1
  ·cases h1
def ChainL (n : Nat) (l0 l1 l2 l3 l4 : Bool) (x0 x1 x2 x3 x4 v r : Value) (A R : List Nat) (S : List Nat) (C : List (Nat × Nat)) : Prop :=
 (l0 = true → x0 = v) ∧ (l1 = true → x1 = .int .i64 n) ∧ (l2 = true → ∃ b ∈ S, x2 = hdV n b) ∧ (l3 = true → ∃ b c, b ∈ S ∧ (c, b) ∈ C ∧ x2 = hdV n b ∧ x3 = .slice (some ⟨c, 0, none⟩) 1 1) ∧
  (l4 = false → r = v ∧ R = A) ∧ (l4 = true → r = x4 ∧ ∃ b ∈ S, x2 = hdV n b ∧ R = A ++ [b]) ∧ (l3 = true → l2 = true) ∧ (l4 = true → l2 = true)
def MidSt (w W0 : World) (n : Nat) (L0 : List Nat) (W : World) (ra rb : Value) (RA RB : List Nat) (S : List Nat) (C : List (Nat × Nat)) : Prop :=
 Below w.heap.size w W ∧ W0.heap.size ≤ W.heap.size ∧ W.ownsRow w.heap.size 128 1 ra RA.length (RA.map (hdV n)) ∧ W.ownsRow w.heap.size 128 1 rb RB.length (RB.map (hdV n)) ∧ (ra.ownBlock = none ∨ ra.ownBlock ≠ rb.ownBlock) ∧
  Fam W w.heap.size n L0 (fun _ _ => false) ∧ (∀ b ∈ L0, b < W0.heap.size) ∧ (∀ b ∈ S, W0.heap.size ≤ b ∧ SetW W b n (fun _ => false)) ∧ ∀ q ∈ C, W0.heap.size ≤ q.1 ∧ BoxL W q.1 128 [hdV n q.2]
theorem MidSt.keep {w W0 : World} {n : Nat} {L0 : List Nat} {W W' : World} {ra rb : Value} {RA RB : List Nat} {S : List Nat} {C : List (Nat × Nat)} (h : MidSt w W0 n L0 W ra rb RA RB S C) (hb : Below W.heap.size W W') : MidSt w W0 n L0 W' ra rb RA RB S C :=
 ⟨Below.next h.1 hb, Nat.le_trans h.2.1 hb.size, ownsRow_keep h.2.2.1 hb, ownsRow_keep h.2.2.2.1 hb, h.2.2.2.2.1, h.2.2.2.2.2.1.keep hb, h.2.2.2.2.2.2.1, fun b hm => ⟨(h.2.2.2.2.2.2.2.1 b hm).1, (h.2.2.2.2.2.2.2.1 b hm).2.keep hb⟩, fun q hq => ⟨(h.2.2.2.2.2.2.2.2 q hq).1, (h.2.2.2.2.2.2.2.2 q hq).2.keep hb⟩⟩
theorem setNew (W : World) (n : Nat) : SetW (W.alloc (.cells (madeCells #[.int .u64 0] n) 165)) W.heap.size n (fun _ => false) :=
 ⟨fun _ => 0, (World.rowIs_made W (.int .u64 0) n 165).congr (by intro i hi; simp), fun r => by simp [bitAt]⟩
theorem MidSt.make {w W0 : World} {n : Nat} {L0 : List Nat} {W : World} {ra rb : Value} {RA RB : List Nat} {S : List Nat} {C : List (Nat × Nat)} (h : MidSt w W0 n L0 W ra rb RA RB S C) : MidSt w W0 n L0 (W.alloc (.cells (madeCells #[.int .u64 0] n) 165)) ra rb RA RB (W.heap.size :: S) C := by
 obtain ⟨g1, g2, g3, g4, g5, g6, g7, g8, g9⟩ := h.keep (Below.one W (.cells (madeCells #[.int .u64 0] n) 165))
 refine ⟨g1, g2, g3, g4, g5, g6, g7, fun b hm => ?_, g9⟩
 rcases List.mem_cons.1 hm with rfl | hm
 ·exact ⟨h.2.1, setNew W n⟩
 ·exact g8 b hm
theorem MidSt.build {w W0 : World} {n b : Nat} {L0 : List Nat} {W : World} {ra rb : Value} {RA RB : List Nat} {S : List Nat} {C : List (Nat × Nat)} (h : MidSt w W0 n L0 W ra rb RA RB S C) : MidSt w W0 n L0 (W.alloc (.cells #[hdV n b] 128)) ra rb RA RB S ((W.heap.size, b) :: C) := by
 obtain ⟨g1, g2, g3, g4, g5, g6, g7, g8, g9⟩ := h.keep (Below.one W (.cells #[hdV n b] 128))
 refine ⟨g1, g2, g3, g4, g5, g6, g7, g8, fun q hq => ?_⟩
 rcases List.mem_cons.1 hq with rfl | hq
 ·exact ⟨h.2.1, BoxL.new rfl _ _⟩
 ·exact g9 q hq
theorem MidSt.flip {w W0 : World} {n : Nat} {L0 : List Nat} {W : World} {ra rb : Value} {RA RB : List Nat} {S : List Nat} {C : List (Nat × Nat)} (h : MidSt w W0 n L0 W ra rb RA RB S C) : MidSt w W0 n L0 W rb ra RB RA S C := by
 obtain ⟨g1, g2, g3, g4, g5, g6, g7, g8, g9⟩ := h
 refine ⟨g1, g2, g4, g3, ?_, g6, g7, g8, g9⟩
 rcases g4.2 with ⟨rfl, _⟩ | ⟨g, cap, cur, rfl, _⟩
 ·exact .inl rfl
 ·right
  rcases g5 with h | h
  ·rw [h]; simp [Value.ownBlock]
  ·exact Ne.symm h
theorem MidSt.app {w W0 : World} {n b g cap : Nat} {L0 : List Nat} {W W' : World} {ra rb : Value} {RA RB : List Nat} {S : List Nat} {C : List (Nat × Nat)} (h : MidSt w W0 n L0 W ra rb RA RB S C) (hra : ∀ g, ra.ownBlock = some g → g < W0.heap.size)
  (ho : W'.ownsRow w.heap.size 128 1 (.slice (some ⟨g, 0, none⟩) (RA.length + 1) cap) (RA.length + 1) (RA.map (hdV n) ++ [hdV n b])) (hg : W.grownBy W' ra.ownBlock) (hl : ra.ownBlock = some g ∨ g = W.heap.size) :
  MidSt w W0 n L0 W' (.slice (some ⟨g, 0, none⟩) (RA.length + 1) cap) rb (RA ++ [b]) RB S C := by
 obtain ⟨g1, g2, g3, g4, g5, g6, g7, g8, g9⟩ := h
 have hset : ∀ x P, SetW W x n P → SetW W' x n P := fun x P hs => hs.grown hg (by
  rcases row_set_apart g3 hs with e | e
  ·rw [e]; simp
  ·exact fun e' => e e'.symm)
 have hrb : rb.ownBlock = none ∨ rb.ownBlock ≠ ra.ownBlock := by
  rcases g5 with e | e
  ·cases hb : rb.ownBlock with
   | none => exact .inl rfl
   | some _ => exact .inr (by rw [e]; simp)
  ·exact .inr (Ne.symm e)
 refine ⟨g1.grown hg g1.size (fun k hk => (g3.lt k hk).1), Nat.le_trans g2 hg.size, ?_, g4.kept hg hrb, ?_, ⟨g6.1, fun x hx => ⟨(g6.2 x hx).1, hset x _ (g6.2 x hx).2⟩⟩, g7, fun x hx => ⟨(g8 x hx).1, hset x _ (g8 x hx).2⟩, fun q hq => ⟨(g9 q hq).1, (hg.block _ (g9 q hq).2.lt ?_).trans (g9 q hq).2⟩⟩
 ·rw [List.length_append, List.map_append]; exact ho
 ·right
  intro e
  have e : some g = rb.ownBlock := e
  rcases hl with hl | hl
  ·rcases hrb with hb | hb
   ·rw [hb] at e; cases e
   ·exact hb (by rw [← e, hl])
  ·have := (g4.lt g e.symm).2
   omega
 ·intro e
  have h1 := hra _ e.symm
  have h2 := (g9 q hq).1
  omega
theorem listed_at {listed : Array Bool} {i j : Nat} (h : i < listed.size) : (listed.setIfInBounds i true).getD j false = if j = i then true else listed.getD j false := by
 by_cases e : j = i
 ·subst e; simp [h]
 ·rw [if_neg e]; exact getD_set_ne false (Ne.symm e)
def RegI (w W0 : World) (n : Nat) (va vb : Value) (A B : List Nat) (L : Nat → Bool) (x0 x1 x2 x3 x4 y0 y1 y2 y3 y4 : Value) (W : World) : Prop :=
 ∃ ra rb RA RB S C, MidSt w W0 n (A ++ B) W ra rb RA RB S C ∧ ChainL n (L 0) (L 1) (L 2) (L 3) (L 4) x0 x1 x2 x3 x4 va ra A RA S C ∧ ChainL n (L 5) (L 6) (L 7) (L 8) (L 9) y0 y1 y2 y3 y4 vb rb B RB S C ∧ (L 2 = true → L 7 = true → x2 ≠ y2)
theorem RegI.done {w W0 W : World} {n : Nat} {va vb : Value} {A B : List Nat} {L : Nat → Bool} {x0 x1 x2 x3 x4 y0 y1 y2 y3 y4 : Value} (h : RegI w W0 n va vb A B L x0 x1 x2 x3 x4 y0 y1 y2 y3 y4 W) (hL : ∀ i, i < 10 → L i = true) (hW : w.heap.size ≤ W0.heap.size) : ∃ b c, Sol w n W x4 y4 (A ++ [b]) (B ++ [c]) (fun _ _ => false) := by
 obtain ⟨ra, rb, RA, RB, S, C, hm, h1, h2, h3⟩ := h
 obtain ⟨rfl, b, hbS, hx2, rfl⟩ := h1.2.2.2.2.2.1 (hL 4 (by omega))
 obtain ⟨rfl, c, hcS, hy2, rfl⟩ := h2.2.2.2.2.2.1 (hL 9 (by omega))
 have hne : b ≠ c := fun e => h3 (hL 2 (by omega)) (hL 7 (by omega)) (by rw [hx2, hy2, e])
 obtain ⟨g1, g2, g3, g4, g5, g6, g7, g8, g9⟩ := hm
 refine ⟨b, c, g1, g3, g4, g5, ?_, ?_⟩
 ·have hn := g6.1
  have hA : b ∉ A ++ B := fun h => by have := g7 b h; have := (g8 b hbS).1; omega
  have hB : c ∉ A ++ B := fun h => by have := g7 c h; have := (g8 c hcS).1; omega
  simp only [List.mem_append, not_or] at hA hB
  simp only [List.nodup_append, List.nodup_cons, List.not_mem_nil, not_false_eq_true, List.nodup_nil, List.mem_append, List.mem_cons, or_false, and_true] at hn ⊢
  refine ⟨⟨hn.1, trivial, fun x hx y hy e => ?_⟩, ⟨hn.2.1, trivial, fun x hx y hy e => ?_⟩, fun x hx y hy e => ?_⟩
  ·subst hy e; exact hA.1 hx
  ·subst hy e; exact hB.2 hx
  ·subst e
   rcases hx with hx | rfl
   ·rcases hy with hy | rfl
    ·exact hn.2.2 x hx x hy rfl
    ·exact hB.1 hx
   ·rcases hy with hy | hy
    ·exact hA.2 hy
    ·exact hne hy
 ·intro x hx
  simp only [List.mem_append, List.mem_cons, List.not_mem_nil, or_false] at hx
  have hge : ∀ y ∈ S, w.heap.size ≤ y := fun y hy => by
   have h1 := (g8 y hy).1
   omega
  rcases hx with (hx | rfl) | (hx | rfl)
  ·exact g6.2 x (by simp [hx])
  ·exact ⟨hge _ hbS, (g8 _ hbS).2⟩
  ·exact g6.2 x (by simp [hx])
  ·exact ⟨hge _ hcS, (g8 _ hcS).2⟩
end
section
open Go.RowKit
theorem ChainL.more {n : Nat} {l0 l1 l2 l3 l4 : Bool} {x0 x1 x2 x3 x4 v r : Value} {A R S S' : List Nat} {C C' : List (Nat × Nat)} (h : ChainL n l0 l1 l2 l3 l4 x0 x1 x2 x3 x4 v r A R S C) (hS : ∀ x ∈ S, x ∈ S') (hC : ∀ x ∈ C, x ∈ C') : ChainL n l0 l1 l2 l3 l4 x0 x1 x2 x3 x4 v r A R S' C' := by
 obtain ⟨h0, h1, h2, h3, h4, h5, h6, h7⟩ := h
 refine ⟨h0, h1, fun e => ?_, fun e => ?_, h4, fun e => ?_, h6, h7⟩
 ·obtain ⟨b, hb, he⟩ := h2 e; exact ⟨b, hS b hb, he⟩
 ·obtain ⟨b, c, hb, hc, he⟩ := h3 e; exact ⟨b, c, hS b hb, hC _ hc, he⟩
 ·obtain ⟨hr, b, hb, he⟩ := h5 e; exact ⟨hr, b, hS b hb, he⟩
theorem hdV_inj {n b c : Nat} (h : hdV n b = hdV n c) : b = c := by simpa [hdV] using h
theorem RegI.s0 {w W0 W : World} {n : Nat} {va vb : Value} {A B : List Nat} {L L' : Nat → Bool} {x0 x1 x2 x3 x4 y0 y1 y2 y3 y4 : Value} (h : RegI w W0 n va vb A B L x0 x1 x2 x3 x4 y0 y1 y2 y3 y4 W) (hup : ∀ j, L' j = if j = 0 then true else L j) : RegI w W0 n va vb A B L' va x1 x2 x3 x4 y0 y1 y2 y3 y4 W := by
 have e : ∀ j, j ≠ 0 → L' j = L j := fun j hj => by rw [hup, if_neg hj]
 have e0 : L' 0 = true := by rw [hup, if_pos rfl]
 obtain ⟨ra, rb, RA, RB, S, C, hm, h1, h2, h3⟩ := h
 simp only [RegI, e0, e 1 (by decide), e 2 (by decide), e 3 (by decide), e 4 (by decide), e 5 (by decide), e 6 (by decide), e 7 (by decide), e 8 (by decide), e 9 (by decide)]
 exact ⟨ra, rb, RA, RB, S, C, hm, ⟨fun _ => rfl, h1.2⟩, h2, h3⟩
theorem RegI.s1 {w W0 W : World} {n : Nat} {va vb : Value} {A B : List Nat} {L L' : Nat → Bool} {x0 x1 x2 x3 x4 y0 y1 y2 y3 y4 : Value} (h : RegI w W0 n va vb A B L x0 x1 x2 x3 x4 y0 y1 y2 y3 y4 W) (hup : ∀ j, L' j = if j = 1 then true else L j) : RegI w W0 n va vb A B L' x0 (.int .i64 n) x2 x3 x4 y0 y1 y2 y3 y4 W := by
 have e : ∀ j, j ≠ 1 → L' j = L j := fun j hj => by rw [hup, if_neg hj]
 have e0 : L' 1 = true := by rw [hup, if_pos rfl]
 obtain ⟨ra, rb, RA, RB, S, C, hm, h1, h2, h3⟩ := h
 simp only [RegI, e 0 (by decide), e0, e 2 (by decide), e 3 (by decide), e 4 (by decide), e 5 (by decide), e 6 (by decide), e 7 (by decide), e 8 (by decide), e 9 (by decide)]
 exact ⟨ra, rb, RA, RB, S, C, hm, ⟨h1.1, fun _ => rfl, h1.2.2⟩, h2, h3⟩
theorem RegI.s2 {w W0 W : World} {n : Nat} {va vb : Value} {A B : List Nat} {L L' : Nat → Bool} {x0 x1 x2 x3 x4 y0 y1 y2 y3 y4 : Value} (h : RegI w W0 n va vb A B L x0 x1 x2 x3 x4 y0 y1 y2 y3 y4 W) (hup : ∀ j, L' j = if j = 2 then true else L j) (hf : L 2 = false) : RegI w W0 n va vb A B L' x0 x1 (hdV n W.heap.size) x3 x4 y0 y1 y2 y3 y4 (W.alloc (.cells (madeCells #[.int .u64 0] n) 165)) := by
 have e : ∀ j, j ≠ 2 → L' j = L j := fun j hj => by rw [hup, if_neg hj]
 have e0 : L' 2 = true := by rw [hup, if_pos rfl]
 obtain ⟨ra, rb, RA, RB, S, C, hm, h1, h2, h3⟩ := h
 simp only [RegI, e 0 (by decide), e 1 (by decide), e0, e 3 (by decide), e 4 (by decide), e 5 (by decide), e 6 (by decide), e 7 (by decide), e 8 (by decide), e 9 (by decide)]
 exact ⟨ra, rb, RA, RB, W.heap.size :: S, C, hm.make, ⟨h1.1, h1.2.1, fun _ => ⟨_, by simp, rfl⟩, fun h => (by have := h1.2.2.2.2.2.2.1 h; rw [hf] at this; cases this), h1.2.2.2.2.1, fun h => (by have := h1.2.2.2.2.2.2.2 h; rw [hf] at this; cases this), fun _ => rfl, fun _ => rfl⟩, h2.more (fun _ h => List.mem_cons_of_mem _ h) (fun _ h => h), fun _ h7 he => by
  obtain ⟨c, hc, hy⟩ := h2.2.2.1 h7
  rw [hy] at he
  have := (hm.2.2.2.2.2.2.2.1 c hc).2.lt
  have := hdV_inj he
  omega⟩
theorem RegI.s3 {w W0 W : World} {n : Nat} {va vb : Value} {A B : List Nat} {L L' : Nat → Bool} {x0 x1 _x2 x3 x4 y0 y1 y2 y3 y4 : Value} {c : Nat} (h : RegI w W0 n va vb A B L x0 x1 (hdV n c) x3 x4 y0 y1 y2 y3 y4 W) (hup : ∀ j, L' j = if j = 3 then true else L j) (ht : L 2 = true) : RegI w W0 n va vb A B L' x0 x1 (hdV n c) (.slice (some ⟨W.heap.size, 0, none⟩) 1 1) x4 y0 y1 y2 y3 y4 (W.alloc (.cells #[hdV n c] 128)) := by
 have e : ∀ j, j ≠ 3 → L' j = L j := fun j hj => by rw [hup, if_neg hj]
 have e0 : L' 3 = true := by rw [hup, if_pos rfl]
 obtain ⟨ra, rb, RA, RB, S, C, hm, h1, h2, h3⟩ := h
 simp only [RegI, e 0 (by decide), e 1 (by decide), e 2 (by decide), e0, e 4 (by decide), e 5 (by decide), e 6 (by decide), e 7 (by decide), e 8 (by decide), e 9 (by decide)]
 obtain ⟨c', hcS, hc'⟩ := h1.2.2.1 ht
 obtain rfl := hdV_inj hc'
 exact ⟨ra, rb, RA, RB, S, (W.heap.size, c) :: C, hm.build, ⟨h1.1, h1.2.1, h1.2.2.1, fun _ => ⟨c, W.heap.size, hcS, by simp, rfl, rfl⟩, h1.2.2.2.2.1, h1.2.2.2.2.2.1, fun _ => ht, h1.2.2.2.2.2.2.2⟩, h2.more (fun _ h => h) (fun _ h => List.mem_cons_of_mem _ h), h3⟩
theorem RegI.a4 {w W0 W : World} {n : Nat} {va vb : Value} {A B : List Nat} {L L' : Nat → Bool} {x0 x1 x2 x3 x4 y0 y1 y2 y3 y4 : Value} (h : RegI w W0 n va vb A B L x0 x1 x2 x3 x4 y0 y1 y2 y3 y4 W) (hup : ∀ j, L' j = if j = 4 then true else L j) (hf : L 4 = false) (ht : L 3 = true) (ht0 : L 0 = true) (hra : ∀ g, va.ownBlock = some g → g < W0.heap.size) :
  ∃ c q, x0 = va ∧ x3 = .slice (some ⟨q, 0, none⟩) 1 1 ∧ BoxL W q 128 [hdV n c] ∧ W.ownsRow w.heap.size 128 1 va A.length (A.map (hdV n)) ∧ w.heap.size ≤ W.heap.size ∧
   ∀ g cap W', W'.ownsRow w.heap.size 128 1 (.slice (some ⟨g, 0, none⟩) (A.length + 1) cap) (A.length + 1) (A.map (hdV n) ++ [hdV n c]) → W.grownBy W' va.ownBlock → (va.ownBlock = some g ∨ g = W.heap.size) → RegI w W0 n va vb A B L' x0 x1 x2 x3 (.slice (some ⟨g, 0, none⟩) (A.length + 1) cap) y0 y1 y2 y3 y4 W' := by
 have e : ∀ j, j ≠ 4 → L' j = L j := fun j hj => by rw [hup, if_neg hj]
 have e0 : L' 4 = true := by rw [hup, if_pos rfl]
 obtain ⟨ra, rb, RA, RB, S, C, hm, h1, h2, h3⟩ := h
 simp only [RegI, e 0 (by decide), e 1 (by decide), e 2 (by decide), e 3 (by decide), e0, e 5 (by decide), e 6 (by decide), e 7 (by decide), e 8 (by decide), e 9 (by decide)]
 obtain ⟨c, q, hcS, hqC, hx2, hx3⟩ := h1.2.2.2.1 ht
 have ht2 := h1.2.2.2.2.2.2.1 ht
 obtain ⟨rfl, rfl⟩ := h1.2.2.2.2.1 hf
 refine ⟨c, q, h1.1 ht0, hx3, (hm.2.2.2.2.2.2.2.2 _ hqC).2, hm.2.2.1, hm.1.size, fun g cap W' ho hg hl => ?_⟩
 exact ⟨_, rb, _, RB, S, C, hm.app hra ho hg hl, ⟨h1.1, h1.2.1, h1.2.2.1, h1.2.2.2.1, fun h => (by cases h), fun _ => ⟨rfl, c, hcS, hx2, rfl⟩, h1.2.2.2.2.2.2.1, fun _ => ht2⟩, h2, h3⟩
theorem RegI.s5 {w W0 W : World} {n : Nat} {va vb : Value} {A B : List Nat} {L L' : Nat → Bool} {x0 x1 x2 x3 x4 y0 y1 y2 y3 y4 : Value} (h : RegI w W0 n va vb A B L x0 x1 x2 x3 x4 y0 y1 y2 y3 y4 W) (hup : ∀ j, L' j = if j = 5 then true else L j) : RegI w W0 n va vb A B L' x0 x1 x2 x3 x4 vb y1 y2 y3 y4 W := by
 have e : ∀ j, j ≠ 5 → L' j = L j := fun j hj => by rw [hup, if_neg hj]
 have e0 : L' 5 = true := by rw [hup, if_pos rfl]
 obtain ⟨ra, rb, RA, RB, S, C, hm, h1, h2, h3⟩ := h
 simp only [RegI, e 0 (by decide), e 1 (by decide), e 2 (by decide), e 3 (by decide), e 4 (by decide), e0, e 6 (by decide), e 7 (by decide), e 8 (by decide), e 9 (by decide)]
 exact ⟨ra, rb, RA, RB, S, C, hm, h1, ⟨fun _ => rfl, h2.2⟩, h3⟩
theorem RegI.s6 {w W0 W : World} {n : Nat} {va vb : Value} {A B : List Nat} {L L' : Nat → Bool} {x0 x1 x2 x3 x4 y0 y1 y2 y3 y4 : Value} (h : RegI w W0 n va vb A B L x0 x1 x2 x3 x4 y0 y1 y2 y3 y4 W) (hup : ∀ j, L' j = if j = 6 then true else L j) : RegI w W0 n va vb A B L' x0 x1 x2 x3 x4 y0 (.int .i64 n) y2 y3 y4 W := by
 have e : ∀ j, j ≠ 6 → L' j = L j := fun j hj => by rw [hup, if_neg hj]
 have e0 : L' 6 = true := by rw [hup, if_pos rfl]
 obtain ⟨ra, rb, RA, RB, S, C, hm, h1, h2, h3⟩ := h
 simp only [RegI, e 0 (by decide), e 1 (by decide), e 2 (by decide), e 3 (by decide), e 4 (by decide), e 5 (by decide), e0, e 7 (by decide), e 8 (by decide), e 9 (by decide)]
 exact ⟨ra, rb, RA, RB, S, C, hm, h1, ⟨h2.1, fun _ => rfl, h2.2.2⟩, h3⟩
theorem RegI.s7 {w W0 W : World} {n : Nat} {va vb : Value} {A B : List Nat} {L L' : Nat → Bool} {x0 x1 x2 x3 x4 y0 y1 y2 y3 y4 : Value} (h : RegI w W0 n va vb A B L x0 x1 x2 x3 x4 y0 y1 y2 y3 y4 W) (hup : ∀ j, L' j = if j = 7 then true else L j) (hf : L 7 = false) : RegI w W0 n va vb A B L' x0 x1 x2 x3 x4 y0 y1 (hdV n W.heap.size) y3 y4 (W.alloc (.cells (madeCells #[.int .u64 0] n) 165)) := by
 have e : ∀ j, j ≠ 7 → L' j = L j := fun j hj => by rw [hup, if_neg hj]
 have e0 : L' 7 = true := by rw [hup, if_pos rfl]
 obtain ⟨ra, rb, RA, RB, S, C, hm, h1, h2, h3⟩ := h
 simp only [RegI, e 0 (by decide), e 1 (by decide), e 2 (by decide), e 3 (by decide), e 4 (by decide), e 5 (by decide), e 6 (by decide), e0, e 8 (by decide), e 9 (by decide)]
 exact ⟨ra, rb, RA, RB, W.heap.size :: S, C, hm.make, h1.more (fun _ h => List.mem_cons_of_mem _ h) (fun _ h => h), ⟨h2.1, h2.2.1, fun _ => ⟨_, by simp, rfl⟩, fun h => (by have := h2.2.2.2.2.2.2.1 h; rw [hf] at this; cases this), h2.2.2.2.2.1, fun h => (by have := h2.2.2.2.2.2.2.2 h; rw [hf] at this; cases this), fun _ => rfl, fun _ => rfl⟩, fun h7 _ he => by
  obtain ⟨c, hc, hy⟩ := h1.2.2.1 h7
  rw [hy] at he
  have := (hm.2.2.2.2.2.2.2.1 c hc).2.lt
  have := hdV_inj he
  omega⟩
theorem RegI.s8 {w W0 W : World} {n : Nat} {va vb : Value} {A B : List Nat} {L L' : Nat → Bool} {x0 x1 x2 x3 x4 y0 y1 _y2 y3 y4 : Value} {c : Nat} (h : RegI w W0 n va vb A B L x0 x1 x2 x3 x4 y0 y1 (hdV n c) y3 y4 W) (hup : ∀ j, L' j = if j = 8 then true else L j) (ht : L 7 = true) : RegI w W0 n va vb A B L' x0 x1 x2 x3 x4 y0 y1 (hdV n c) (.slice (some ⟨W.heap.size, 0, none⟩) 1 1) y4 (W.alloc (.cells #[hdV n c] 128)) := by
 have e : ∀ j, j ≠ 8 → L' j = L j := fun j hj => by rw [hup, if_neg hj]
 have e0 : L' 8 = true := by rw [hup, if_pos rfl]
 obtain ⟨ra, rb, RA, RB, S, C, hm, h1, h2, h3⟩ := h
 simp only [RegI, e 0 (by decide), e 1 (by decide), e 2 (by decide), e 3 (by decide), e 4 (by decide), e 5 (by decide), e 6 (by decide), e 7 (by decide), e0, e 9 (by decide)]
 obtain ⟨c', hcS, hc'⟩ := h2.2.2.1 ht
 obtain rfl := hdV_inj hc'
 exact ⟨ra, rb, RA, RB, S, (W.heap.size, c) :: C, hm.build, h1.more (fun _ h => h) (fun _ h => List.mem_cons_of_mem _ h), ⟨h2.1, h2.2.1, h2.2.2.1, fun _ => ⟨c, W.heap.size, hcS, by simp, rfl, rfl⟩, h2.2.2.2.2.1, h2.2.2.2.2.2.1, fun _ => ht, h2.2.2.2.2.2.2.2⟩, h3⟩
theorem RegI.a9 {w W0 W : World} {n : Nat} {va vb : Value} {A B : List Nat} {L L' : Nat → Bool} {x0 x1 x2 x3 x4 y0 y1 y2 y3 y4 : Value} (h : RegI w W0 n va vb A B L x0 x1 x2 x3 x4 y0 y1 y2 y3 y4 W) (hup : ∀ j, L' j = if j = 9 then true else L j) (hf : L 9 = false) (ht : L 8 = true) (ht0 : L 5 = true) (hra : ∀ g, vb.ownBlock = some g → g < W0.heap.size) :
  ∃ c q, y0 = vb ∧ y3 = .slice (some ⟨q, 0, none⟩) 1 1 ∧ BoxL W q 128 [hdV n c] ∧ W.ownsRow w.heap.size 128 1 vb B.length (B.map (hdV n)) ∧ w.heap.size ≤ W.heap.size ∧
   ∀ g cap W', W'.ownsRow w.heap.size 128 1 (.slice (some ⟨g, 0, none⟩) (B.length + 1) cap) (B.length + 1) (B.map (hdV n) ++ [hdV n c]) → W.grownBy W' vb.ownBlock → (vb.ownBlock = some g ∨ g = W.heap.size) → RegI w W0 n va vb A B L' x0 x1 x2 x3 x4 y0 y1 y2 y3 (.slice (some ⟨g, 0, none⟩) (B.length + 1) cap) W' := by
 have e : ∀ j, j ≠ 9 → L' j = L j := fun j hj => by rw [hup, if_neg hj]
 have e0 : L' 9 = true := by rw [hup, if_pos rfl]
 obtain ⟨ra, rb, RA, RB, S, C, hm, h1, h2, h3⟩ := h
 simp only [RegI, e 0 (by decide), e 1 (by decide), e 2 (by decide), e 3 (by decide), e 4 (by decide), e 5 (by decide), e 6 (by decide), e 7 (by decide), e 8 (by decide), e0]
 obtain ⟨c, q, hcS, hqC, hx2, hx3⟩ := h2.2.2.2.1 ht
 have ht2 := h2.2.2.2.2.2.2.1 ht
 obtain ⟨rfl, rfl⟩ := h2.2.2.2.2.1 hf
 refine ⟨c, q, h2.1 ht0, hx3, (hm.2.2.2.2.2.2.2.2 _ hqC).2, hm.2.2.2.1, hm.1.size, fun g cap W' ho hg hl => ?_⟩
 exact ⟨ra, _, RA, _, S, C, (hm.flip.app hra ho hg hl).flip, h1, ⟨h2.1, h2.2.1, h2.2.2.1, h2.2.2.2.1, fun h => (by cases h), fun _ => ⟨rfl, c, hcS, hx2, rfl⟩, h2.2.2.2.2.2.2.1, fun _ => ht2⟩, h3⟩
end
section
open Go.RowKit
section
variable {P : Program} {ops : Array Oper} {Q : Exit → Act → World → Prop} {o : Oper} {a : Act} {w w' : World}
theorem wpList_value {v : Value} (hg : o.guard = none) (h : (execOp a.eval o).run P w = .ok (.value v) w') (hQ : Q .normal (a.put o.dst v) w') : wpList P ops Q [o] a w :=
 wpList_plain hg fun K hK => by unfold Oper.wp; rw [h]; exact hK _ _ hQ
theorem wpList_move {s : Nat} (hg : o.guard = none) (ho : o.op = .move (.tmp s)) (hQ : Q .normal (a.put o.dst (a.tmps.getD s undef)) w) : wpList P ops Q [o] a w :=
 wpList_value hg (by unfold execOp; rw [ho]; rfl) hQ
theorem wpList_make {s t : Nat} {x v : Value} (hg : o.guard = none) (ho : o.op = .makeSlice t (.tmp s) (.tmp s)) (hx : a.tmps.getD s undef = x) (hm : (Instr.makeSlice t x x).run P w = .ok v w') (hQ : Q .normal (a.put o.dst v) w') : wpList P ops Q [o] a w := by
 refine wpList_value (v := v) (w' := w') hg ?_ hQ
 unfold execOp
 rw [ho]
 show (do let r ← Instr.makeSlice t (a.tmps.getD s undef) (a.tmps.getD s undef); pure (Next.value r) : Sem Next).run P w = _
 rw [hx]
 simp only [Sem.run_bind, Sem.run_pure, hm, Result.andThen_ok]
end
theorem wpList_build {ops : Array Oper} {Q : Exit → Act → World → Prop} {o : Oper} {a : Act} {w : World} {s n b : Nat} (hg : o.guard = none) (ho : o.op = .buildSlice 124 1 #[(0, .tmp s)]) (hx : a.tmps.getD s undef = hdV n b) (hQ : Q .normal (a.put o.dst (.slice (some ⟨w.heap.size, 0, none⟩) 1 1)) (w.alloc (.cells #[hdV n b] 128))) : wpList Tryz.prog ops Q [o] a w := by
 refine wpList_value hg ?_ hQ
 have hmap : (#[(0, Operand.tmp s)] : Array (Nat × Operand)).map (fun (i, x) => (i, a.eval x)) = #[(0, hdV n b)] := by
  simp only [List.map_toArray, List.map_cons, List.map_nil]
  rw [← hx]; rfl
 unfold execOp
 rw [ho]
 show (do let r ← Instr.buildSlice 124 1 ((#[(0, Operand.tmp s)] : Array (Nat × Operand)).map (fun (i, x) => (i, a.eval x))); pure (Next.value r) : Sem Next).run Tryz.prog w = _
 rw [hmap]
 go_simp
theorem act_list {a : Act} {m : Nat} (h : a.tmps.size = m) : a.tmps = ((List.range m).map (fun i => a.tmps.getD i undef)).toArray := by
 apply Array.ext
 ·simp [h]
 ·intro i h1 h2
  simp [h1]
theorem act_eq {a : Act} {m : Nat} {l : List Value} (h : a.tmps.size = m) (hd : a.defers = []) (hl : (List.range m).map (fun i => a.tmps.getD i undef) = l) : a = { tmps := l.toArray, defers := [] } := by
 have h1 := act_list h
 rw [hl] at h1
 obtain ⟨t, d⟩ := a
 simp only at hd h1
 subst hd h1
 rfl
end
section
open Go.RowKit
namespace Live
open Unt Peep
def LowTo (code : List Ins) (A : List Nat) (P : Nat → Nat → Bool) (k : Nat) : Prop := ∀ (j : Nat) (x : Ins) (a : Nat), j < k → code[j]? = some x → A[j]? = some a → ∀ r : Nat, (r : Int) ∈ named x → P a r = true
def UpIn (code : List Ins) (A : List Nat) (P : Nat → Nat → Bool) : Prop := ∀ b r : Nat, P b r = true → ∃ (j : Nat) (x : Ins), A[j]? = some b ∧ code[j]? = some x ∧ (r : Int) ∈ named x
def upd (P : Nat → Nat → Bool) (b : Nat) (Q : Nat → Bool) : Nat → Nat → Bool := fun x => if x = b then Q else P x
theorem upd_same (P : Nat → Nat → Bool) (b : Nat) (Q : Nat → Bool) : upd P b Q b = Q := if_pos rfl
theorem upd_other {P : Nat → Nat → Bool} {b x : Nat} {Q : Nat → Bool} (h : x ≠ b) : upd P b Q x = P x := if_neg h
theorem upd_eq {P : Nat → Nat → Bool} {b : Nat} {Q : Nat → Bool} (h : ∀ r, Q r = P b r) : upd P b Q = P := by
 funext x r
 by_cases e : x = b
 ·subst e; rw [upd_same]; exact h r
 ·rw [upd_other e]
theorem upd_le {P : Nat → Nat → Bool} {b : Nat} {Q : Nat → Bool} (h : ∀ r, P b r = true → Q r = true) : ∀ x r, P x r = true → upd P b Q x r = true := by
 intro x r hx
 by_cases e : x = b
 ·subst e; rw [upd_same]; exact h r hx
 ·rw [upd_other e]; exact hx
theorem nodup_apart {A B : List Nat} (h : (A ++ B).Nodup) {k j a b : Nat} (ha : A[k]? = some a) (hb : B[j]? = some b) : a ≠ b := by
 rw [List.nodup_append] at h
 exact h.2.2 a (List.mem_of_getElem? ha) b (List.mem_of_getElem? hb)
theorem nodup_idx {A : List Nat} (h : A.Nodup) {k j a : Nat} (hk : A[k]? = some a) (hj : A[j]? = some a) : k = j := by
 exact (List.getElem?_inj (List.getElem?_eq_some_iff.1 hk).1 h).1 (hk.trans hj.symm)
theorem nodup_left {A B : List Nat} (h : (A ++ B).Nodup) : A.Nodup := (List.nodup_append.1 h).1
theorem nodup_right {A B : List Nat} (h : (A ++ B).Nodup) : B.Nodup := (List.nodup_append.1 h).2.1
theorem LowTo.mono {code : List Ins} {A : List Nat} {P P' : Nat → Nat → Bool} {k : Nat} (h : LowTo code A P k) (hP : ∀ x r, P x r = true → P' x r = true) : LowTo code A P' k := fun j x a hj hx ha r hr => hP _ _ (h j x a hj hx ha r hr)
theorem Lower.mono {code : List Ins} {A : List Nat} {P P' : Nat → Nat → Bool} (h : Lower code A P) (hP : ∀ x r, P x r = true → P' x r = true) : Lower code A P' := fun k x a hx ha r hr => hP _ _ (h k x a hx ha r hr)
theorem UpIn.upper {code : List Ins} {A B : List Nat} {P : Nat → Nat → Bool} (h : UpIn code A P) (hn : (A ++ B).Nodup) : Upper code A B P := by
 intro k x hx
 refine ⟨fun a ha r hr => ?_, fun b hb r hr => ?_⟩
 ·obtain ⟨j, y, hj, hy, hm⟩ := h a r hr
  obtain rfl := nodup_idx (nodup_left hn) ha hj
  exact .use hy hm
 ·obtain ⟨j, y, hj, hy, hm⟩ := h b r hr
  exact absurd rfl (nodup_apart hn hj hb)
theorem UpIn.add {code : List Ins} {A : List Nat} {P : Nat → Nat → Bool} (h : UpIn code A P) {k a r : Nat} {x : Ins} (ha : A[k]? = some a) (hx : code[k]? = some x) (hr : (r : Int) ∈ named x) : UpIn code A (upd P a fun q => P a q || decide (q = r)) := by
 intro b q hq
 by_cases e : b = a
 ·subst e
  rw [upd_same] at hq
  simp only [Bool.or_eq_true, decide_eq_true_eq] at hq
  rcases hq with hq | rfl
  ·exact h b q hq
  ·exact ⟨k, x, ha, hx, hr⟩
 ·rw [upd_other e] at hq; exact h b q hq
theorem Upper.behind {code : List Ins} {A B : List Nat} {P : Nat → Nat → Bool} (h : Upper code A B P) (hn : (A ++ B).Nodup) {k t b a : Nat} {x : Ins} {Q : Nat → Bool} (hx : code[k]? = some x) (hb : B[k]? = some b) (ht : t ∈ succs x k) (ha : A[t]? = some a) (hta : t < code.length) (hQ : ∀ r, Q r = (P b r || (P a r && decide ((r : Int) ≠ -1)))) : Upper code A B (upd P b Q) := by
 intro i y hy
 refine ⟨fun a' ha' r hr => ?_, fun b' hb' r hr => ?_⟩
 ·rw [upd_other (nodup_apart hn ha' hb)] at hr
  exact (h i y hy).1 a' ha' r hr
 ·by_cases e : b' = b
  ·subst e
   obtain rfl := nodup_idx (nodup_right hn) hb hb'
   obtain rfl := Option.some.inj (hx.symm.trans hy)
   rw [upd_same, hQ] at hr
   simp only [Bool.or_eq_true, Bool.and_eq_true] at hr
   rcases hr with hr | hr
   ·exact (h k x hx).2 b' hb r hr
   ·exact ⟨t, ht, (h t _ (List.getElem?_eq_getElem hta)).1 a ha r hr.1⟩
  ·rw [upd_other e] at hr
   exact (h i y hy).2 b' hb' r hr
theorem Upper.ahead {code : List Ins} {A B : List Nat} {P : Nat → Nat → Bool} (h : Upper code A B P) (hn : (A ++ B).Nodup) {k b a : Nat} {x : Ins} {Q : Nat → Bool} (hx : code[k]? = some x) (hb : B[k]? = some b) (ha : A[k]? = some a) (hQ : ∀ r : Nat, Q r = (P a r || (P b r && decide ((r : Int) ≠ gives x)))) : Upper code A B (upd P a Q) := by
 intro i y hy
 refine ⟨fun a' ha' r hr => ?_, fun b' hb' r hr => ?_⟩
 ·by_cases e : a' = a
  ·subst e
   obtain rfl := nodup_idx (nodup_left hn) ha ha'
   obtain rfl := Option.some.inj (hx.symm.trans hy)
   rw [upd_same, hQ] at hr
   simp only [Bool.or_eq_true, Bool.and_eq_true, decide_eq_true_eq] at hr
   rcases hr with hr | ⟨hr, hg⟩
   ·exact (h k x hx).1 a' ha r hr
   ·obtain ⟨j, hj, hn'⟩ := (h k x hx).2 b hb r hr
    exact .on hx (Ne.symm hg) hj hn'
  ·rw [upd_other e] at hr
   exact (h i y hy).1 a' ha' r hr
 ·rw [upd_other (Ne.symm (nodup_apart hn ha hb'))] at hr
  exact (h i y hy).2 b' hb' r hr
def Pass (code : List Ins) (A B : List Nat) (n : Nat) (P P' : Nat → Nat → Bool) (c : Bool) (k : Nat) : Prop := mu (A ++ B) n P' ≤ mu (A ++ B) n P ∧ (c = true → mu (A ++ B) n P' < mu (A ++ B) n P) ∧ (c = false → P' = P ∧ ∀ j, k ≤ j → j < code.length → ShutAt code A B P j)
def Pass2 (code : List Ins) (A B : List Nat) (n : Nat) (P P' : Nat → Nat → Bool) (c : Bool) (k : Nat) (l : List Nat) : Prop := Pass code A B n P P' c (k + 1) ∧ (c = false → ∀ t ∈ l, ∀ a b, A[t]? = some a → B[k]? = some b → ∀ r, P a r = true → P b r = true)
theorem Pass.start (code : List Ins) (A B : List Nat) (n : Nat) (P : Nat → Nat → Bool) : Pass code A B n P P false code.length := ⟨Nat.le_refl _, fun h => (by cases h), fun _ => ⟨rfl, fun j h1 h2 => (by omega)⟩⟩
theorem Pass.up {code : List Ins} {A B : List Nat} {n k k' : Nat} {P P' : Nat → Nat → Bool} {b : Nat} {Q : Nat → Bool} {c d : Bool} (h : Pass code A B n P P' c k) (hb : b ∈ A ++ B) (hle : ∀ r, P' b r = true → Q r = true) (ht : d = true → ∃ r, r < 64 * n ∧ P' b r = false ∧ Q r = true) (hf : d = false → ∀ r, Q r = P' b r) (hk : d = false → c = false → ∀ j, k' ≤ j → j < code.length → ShutAt code A B P j) : Pass code A B n P (upd P' b Q) (d || c) k' := by
 have h1 : mu (A ++ B) n (upd P' b Q) ≤ mu (A ++ B) n P' := mu_le (upd_le hle)
 refine ⟨Nat.le_trans h1 h.1, fun hc => ?_, fun hc => ?_⟩
 ·cases d with
  | true =>
   obtain ⟨r, h2, h3, h4⟩ := ht rfl
   exact Nat.lt_of_lt_of_le (mu_lt (upd_le hle) hb h2 h3 (by rw [upd_same]; exact h4)) h.1
  | false => exact Nat.lt_of_le_of_lt h1 (h.2.1 (by simpa using hc))
 ·simp only [Bool.or_eq_false_iff] at hc
  exact ⟨(upd_eq (hf hc.1)).trans (h.2.2 hc.2).1, hk hc.1 hc.2⟩
theorem Pass2.join {code : List Ins} {A B : List Nat} {n k t a b : Nat} {P P' : Nat → Nat → Bool} {Q : Nat → Bool} {c d : Bool} {l : List Nat} (_hn : (A ++ B).Nodup) (h : Pass2 code A B n P P' c k l) (hb : B[k]? = some b) (ha : A[t]? = some a) (hQ : ∀ r : Nat, Q r = (P' b r || (P' a r && decide ((r : Int) ≠ -1)))) (ht : d = true → ∃ r, r < 64 * n ∧ P' b r = false ∧ Q r = true) (hf : d = false → ∀ r, Q r = P' b r) : Pass2 code A B n P (upd P' b Q) (d || c) k (l ++ [t]) := by
 refine ⟨h.1.up (List.mem_append_right _ (List.mem_of_getElem? hb)) (fun r hr => by rw [hQ, hr]; rfl) ht hf (fun _ hc => (h.1.2.2 hc).2), fun hc => ?_⟩
 simp only [Bool.or_eq_false_iff] at hc
 intro t' ht' a' b' ha' hb' r hr
 rcases List.mem_append.1 ht' with ht' | ht'
 ·exact h.2 hc.2 t' ht' a' b' ha' hb' r hr
 ·obtain rfl : t' = t := by simpa using ht'
  obtain rfl := Option.some.inj (ha.symm.trans ha')
  obtain rfl := Option.some.inj (hb.symm.trans hb')
  have hP := (h.1.2.2 hc.2).1
  rw [hP] at hQ hf
  rw [← hf hc.1 r, hQ, hr]
  have : ((r : Int) ≠ -1) := by omega
  simp [this]
theorem Pass2.last {code : List Ins} {A B : List Nat} {n k a b : Nat} {x : Ins} {P P' : Nat → Nat → Bool} {Q : Nat → Bool} {c d : Bool} (h : Pass2 code A B n P P' c k (succs x k)) (hx : code[k]? = some x) (hb : B[k]? = some b) (ha : A[k]? = some a) (hQ : ∀ r : Nat, Q r = (P' a r || (P' b r && decide ((r : Int) ≠ gives x)))) (ht : d = true → ∃ r, r < 64 * n ∧ P' a r = false ∧ Q r = true) (hf : d = false → ∀ r, Q r = P' a r) : Pass code A B n P (upd P' a Q) (d || c) k := by
 refine h.1.up (List.mem_append_left _ (List.mem_of_getElem? ha)) (fun r hr => by rw [hQ, hr]; rfl) ht hf (fun hd hc j hj hjl => ?_)
 by_cases e : j = k
 ·subst e
  intro y a' b' hy ha' hb'
  obtain rfl := Option.some.inj (hx.symm.trans hy)
  obtain rfl := Option.some.inj (ha.symm.trans ha')
  obtain rfl := Option.some.inj (hb.symm.trans hb')
  refine ⟨fun t ht' a'' ha'' r hr => h.2 hc t ht' a'' b ha'' hb r hr, fun r hr hg => ?_⟩
  have hP := (h.1.2.2 hc).1
  rw [hP] at hQ hf
  rw [← hf hd r, hQ, hr]
  simp [hg]
 ·exact (h.1.2.2 hc).2 j (by omega) hjl
end Live
theorem goes_succs {code : List Ins} {k : Nat} {x : Ins} (hi : Inside code) (hx : code[k]? = some x) : goesL x k = (Peep.succs x k).map (fun (t : Nat) => (t : Int)) := by
 have h := hi x (List.mem_of_getElem? hx)
 unfold goesL Peep.succs
 by_cases h15 : x.op = 15
 ·have := h.1 h15
  simp [h15]; omega
 ·by_cases h16 : x.op = 16
  ·have := h.2 h16
   simp [h16]; omega
  ·by_cases h19 : 19 ≤ x.op
   ·simp [h15, h16, h19, show ¬ x.op < 19 by omega]
   ·simp [h15, h16, h19, show x.op < 19 by omega]
theorem SlC.sets {w w' : World} {B b n : Nat} {P : Nat → Bool} {l : List Int} {v : Value} (h : SlC w B 1 IntR l v) (_hB : B ≤ w.heap.size) (hs : SetW w b n P) (hg : w.grownBy w' (some b)) : SlC w' B 1 IntR l v := by
 obtain ⟨o, len, cap, rfl, h1, h2, h3, h4⟩ := h
 refine ⟨o, len, cap, rfl, h1, h2, h3, ?_⟩
 cases o with
 | none => exact h4
 | some a =>
  refine ⟨h4.1, fun i x hx => ?_⟩
  obtain ⟨cs, hl, hc, hr⟩ := h4.2 i x hx
  refine ⟨cs, hl, fun j u hu => ?_, hr⟩
  have hcell := hc j u hu
  have hne : a.block ≠ b := by
   rintro rfl
   obtain ⟨g, ⟨c, hb, hcs, hci⟩, _⟩ := hs
   have hj : j = 0 := by
    have := (List.getElem?_eq_some_iff.1 hu).1
    omega
   subst hj
   rw [hr.1] at hu
   simp only [List.getElem?_cons_zero, Option.some.injEq] at hu
   subst hu
   unfold World.cell? at hcell
   simp only [hb] at hcell
   have hlt := (Array.getElem?_eq_some_iff.1 (show c[_]? = some _ from hcell)).1
   have := hci _ (by rw [← hcs]; exact hlt)
   rw [this] at hcell
   simp at hcell
  have hlt : a.block < w.heap.size := cell_lt hcell
  unfold World.cell? at hcell ⊢
  rw [show w'.heap[({ block := a.block, off := a.off + i * 1 + j, spot := none } : Addr).block]? = w.heap[a.block]? from hg.block a.block hlt (fun e => hne (by simpa using e))]
  exact hcell
theorem Sol.hdA {w W : World} {n k a len cap : Nat} {o : Option Addr} {vb : Value} {A B : List Nat} {P : Nat → Nat → Bool} (h : Sol w n W (.slice o len cap) vb A B P) (hk : A[k]? = some a) : ∃ g, o = some ⟨g, 0, none⟩ ∧ len = A.length ∧ W.cell? ⟨g, k, none⟩ = some (hdV n a) ∧ g < W.heap.size := by
 obtain ⟨g, cap', he, h1, h2⟩ := hdr_at h.2.1 hk
 simp only [Value.slice.injEq] at he
 exact ⟨g, he.1, he.2.1, h1, h2⟩
theorem Sol.hdB {w W : World} {n k a len cap : Nat} {o : Option Addr} {va : Value} {A B : List Nat} {P : Nat → Nat → Bool} (h : Sol w n W va (.slice o len cap) A B P) (hk : B[k]? = some a) : ∃ g, o = some ⟨g, 0, none⟩ ∧ len = B.length ∧ W.cell? ⟨g, k, none⟩ = some (hdV n a) ∧ g < W.heap.size := by
 obtain ⟨g, cap', he, h1, h2⟩ := hdr_at h.2.2.1 hk
 simp only [Value.slice.injEq] at he
 exact ⟨g, he.1, he.2.1, h1, h2⟩
theorem Sol.form {w W : World} {n : Nat} {va vb : Value} {A B : List Nat} {P : Nat → Nat → Bool} (h : Sol w n W va vb A B P) (hA : 0 < A.length) (hB : 0 < B.length) : ∃ ga gb ca cb, va = .slice (some ⟨ga, 0, none⟩) A.length ca ∧ vb = .slice (some ⟨gb, 0, none⟩) B.length cb := by
 obtain ⟨g, c, he, _⟩ := hdr_at h.2.1 (List.getElem?_eq_getElem hA)
 obtain ⟨g', c', he', _⟩ := hdr_at h.2.2.1 (List.getElem?_eq_getElem hB)
 exact ⟨g, g', c, c', he, he'⟩
end
end Go.Proofs.YtigkhmppnnljiaaGreatDoor

/-
  What the proofs lean on: Sols, ChkC, MkEq, FragLaw.
-/
import Derived.Laws.BitsAllLaws
import Derived.Deep.OwnRows
import Derived.Deep.LoopGhost
import Derived.Deep.RegionLaw
import Derived.Deep.AppendLies
import Derived.Defers
import Derived.Test.YtigkhmppnnljiaaGreatDoorPreA03
import Derived.Test.YtigkhmppnnljiaaGreatDoorPreA10
import Derived.Test.YtigkhmppnnljiaaGreatDoorPreA12
import Derived.Test.YtigkhmppnnljiaaGreatDoorPreA13
import Derived.Test.YtigkhmppnnljiaaGreatDoorPreA14
import Derived.Test.YtigkhmppnnljiaaGreatDoorPreA19
import Derived.Test.YtigkhmppnnljiaaGreatDoorPreA21
import Derived.Test.YtigkhmppnnljiaaGreatDoorPreA22
set_option maxRecDepth 100000
set_option maxHeartbeats 16000000
namespace Go.Proofs.YtigkhmppnnljiaaGreatDoor
section
open Go
def InvPost (I : Array Bool → Act → World → Prop) (listed : Array Bool) (i : Nat) (o : Oper) (a : Act) (e : Exit) (a' : Act) (w' : World) : Prop := e = .normal ∧ ∃ v, a' = a.put o.dst v ∧ I (listed.setIfInBounds i true) a' w'
theorem wp_region_inv {P : Program} {id : Nat} {Q : Exit → Act → World → Prop} {a0 : Act} {w : World} {l : List Oper} (n : Nat) (I : Array Bool → Act → World → Prop) (hm : P.follows .mixedOrders = true) (hB : monoB l.toArray n a0.tmps.size = true)
  (h0 : I (Array.replicate l.toArray.size false) a0 w.drew)
  (hops : ∀ i o, i < n → l.toArray[i]? = some o → ∀ (listed : Array Bool) (a : Act) (w1 : World), listed.size = l.toArray.size → a.defers = a0.defers → a.tmps.size = a0.tmps.size → Rest l.toArray n a0 a → I listed a w1 → listed.getD i false = false → (∀ e ∈ o.after, Region.binds .any e = true → listed.getD e.on false = true) →
   wpList P l.toArray (InvPost I listed i o a) [o] a w1)
  (hend : ∀ (listed : Array Bool) (a : Act) (w1 : World), (∀ i, i < n → listed.getD i false = true) → a.defers = a0.defers → a.tmps.size = a0.tmps.size → Rest l.toArray n a0 a → I listed a w1 → wpList P l.toArray Q (l.drop n) a w1) :
  (Code.region id l.toArray true).wp P Q a0 w := by
 simp only [monoB, monoG, Bool.and_eq_true, decide_eq_true_eq] at hB
 obtain ⟨⟨h1, h2, h3, h4, h5, h6⟩, h7⟩ := hB
 refine wp_region_any hm ?_
 have inv0 : HeadInv .any l.toArray n (Array.replicate l.toArray.size false) :=
  ⟨by simp, fun j oj _ hl => (by rw [getD_replicate_false] at hl; cases hl), fun t _ ht => getD_in (by simpa using ht) (getD_replicate_false _ _)⟩
 have hcount : ((List.range n).filter fun i => !(Array.replicate l.toArray.size false).getD i true).length = n := by
  rw [List.filter_eq_self.2]
  ·simp
  ·intro i hi
   have : i < l.toArray.size := by have := List.mem_range.1 hi; omega
   have h' : i < l.length := by simpa using this
   simp [h']
 have := any_inv (P := P) (Q := Q) (g := l.toArray.size - n) (I := fun listed a w => listed.size = l.toArray.size ∧ a.defers = a0.defers ∧ a.tmps.size = a0.tmps.size ∧ Rest l.toArray n a0 a ∧ I listed a w) h1 h2 h3 h4 ?_ ?_ n _ a0 w.drew hcount inv0
  ⟨by simp, rfl, rfl, fun _ _ => rfl, h0⟩
 ·rwa [show n + (l.toArray.size - n) = l.toArray.size by omega] at this
 ·rintro listed a w1 i ⟨hls, hdf, hsz, hrest, hI⟩ hi hr
  obtain ⟨hun, o, ho, hdeps⟩ := mem_ready.1 hr
  unfold wpOp
  simp only [ho]
  have hg : Region.wanted o (yielded l.toArray a.tmps) = true := wanted_of (R := fun _ _ _ => True) (w := w1) h7 (fun _ h => by cases h) hi ho (by rw [hsz]; exact Nat.le_refl _) (fun _ _ _ _ _ _ _ => trivial)
  rw [if_pos hg]
  left
  refine Oper.wp_mono ?_ (wp_of_list (ops := l.toArray) hg (hops i o hi ho listed a w1 hls hdf hsz hrest hI (by
   have hlt : i < listed.size := by rw [hls]; omega
   simpa [hlt] using hun) hdeps))
  rintro a' w' ⟨v, rfl, hI'⟩
  refine ⟨by simpa using hls, ?_, ?_, ?_, hI'⟩
  ·cases o.dst <;> exact hdf
  ·cases hdst : o.dst with
   | none => exact hsz
   | some d => simpa [Act.put] using hsz
  ·intro t ht
   cases hdst : o.dst with
   | none => exact hrest t ht
   | some d' =>
    have hd' : d' < a.tmps.size := by
     have g1 := List.all_eq_true.1 (List.all_eq_true.1 h5 i (List.mem_range.2 hi)) i (List.mem_range.2 hi)
     simp only [ho, hdst, Bool.and_eq_true, decide_eq_true_eq] at g1
     rw [hsz]; exact g1.1
    rw [put_getD hd', if_neg ?_]
    ·exact hrest t ht
    ·rintro rfl; exact ht i o hi ho hdst
 ·rintro listed a w1 ⟨hls, hdf, hsz, hrest, hI⟩ inv hall
  have hdl : (l.drop n).length = l.toArray.size - n := by simp
  have g := wpAny_of_seq (md := .any) (Q' := Q) (l.drop n) n listed a w1 (fun j => by simp [List.getElem?_drop]) (by rw [hdl, headDone_eq h4 inv hall]; exact h6)
   (hend listed a w1 (fun i hi => by
    have := hall i hi
    have hlt : i < listed.size := by rw [hls]; omega
    simpa [hlt] using this) hdf hsz hrest hI)
  rwa [hdl] at g
end
section
open Go.RowKit
end
section
open Go.RowKit
end
section
open Go.RowKit
section
variable {P : Program} {ops : Array Oper} {Q : Exit → Act → World → Prop} {o : Oper} {a : Act} {w w' : World}
theorem wpList_value {v : Value} (hg : o.guard = none) (h : (execOp a.eval o).run P w = .ok (.value v) w') (hQ : Q .normal (a.put o.dst v) w') : wpList P ops Q [o] a w :=
 wpList_plain hg fun K hK => by unfold Oper.wp; rw [h]; exact hK _ _ hQ
end
end
section
open Go.RowKit
namespace Live
open Unt Peep
end Live
end
section
open Go Go.RowKit
theorem SlC.drops {α : Type} {w : World} {B size : Nat} {R : α → List Value → Prop} {l : List α} {b off len cap n : Nat} (h : SlC w B size R l (.slice (some ⟨b, off, none⟩) len cap)) (hn : n ≤ len) : SlC w B size R (l.drop n) (.slice (some ⟨b, off + n * size, none⟩) (len - n) (cap - n)) := by
 obtain ⟨o', len', cap', he, h1, h2, h3, h4⟩ := h
 simp only [Value.slice.injEq] at he
 obtain ⟨rfl, rfl, rfl⟩ := he
 refine ⟨_, len - n, cap - n, rfl, by rw [List.length_drop]; omega, by omega, by omega, fun hl => ⟨rfl, (h4.1 (fun e => hl (by rw [e]; simp))).2⟩, fun i x hx => ?_⟩
 rw [List.getElem?_drop] at hx
 obtain ⟨cs, g1, g2, g3⟩ := h4.2 (n + i) x hx
 refine ⟨cs, g1, fun j u hj => ?_, g3⟩
 have := g2 j u hj
 rw [show off + n * size + i * size + j = off + (n + i) * size + j by rw [Nat.add_mul]; omega]
 exact this
end
section
namespace Mk
theorem lkF_none : ∀ (l : List (Int × Int)) (v : Int), v ∉ l.map Prod.fst → lkF l v = 0
 | [], _, _ => rfl
 | p :: l, v, h => by
  simp only [List.map_cons, List.mem_cons, not_or] at h
  rw [lkF, if_neg (fun e => h.1 e.symm), lkF_none l v h.2]
theorem any_key (l : List (Int × Int)) (v : Int) : (l.any fun q => q.1 == v) = decide (v ∈ l.map Prod.fst) := by
 rw [Bool.eq_iff_iff]; simp only [List.any_eq_true, decide_eq_true_eq, List.mem_map, beq_iff_eq]
theorem lkF_eq : ∀ (l : List (Int × Int)) (v : Int), (l.map Prod.fst).Nodup → lkF l v = lkL l v
 | [], _, _ => rfl
 | p :: l, v, h => by
  simp only [List.map_cons, List.nodup_cons] at h
  rw [lkF, lkL, any_key]
  by_cases hv : v ∈ l.map Prod.fst
  ·rw [if_neg (fun e => h.1 (by rw [e]; exact hv)), lkF_eq l v h.2, if_pos (decide_eq_true hv)]
  ·rw [lkF_none l v hv, if_neg (show ¬ decide (v ∈ l.map Prod.fst) = true from fun h => hv (of_decide_eq_true h))]
def keys (s : MSt) : List Int := s.vars.map Prod.fst
def KP (s s' : MSt) (B : List Int) : Prop := ∃ m, m.Perm B ∧ keys s' = keys s ++ m
theorem KP.refl (s : MSt) : KP s s [] := ⟨[], .refl _, by simp⟩
theorem KP.trans {s s' s'' : MSt} {A B : List Int} (h : KP s s' A) (h' : KP s' s'' B) : KP s s'' (A ++ B) := by
 obtain ⟨m, h1, h2⟩ := h
 obtain ⟨m', h3, h4⟩ := h'
 exact ⟨m ++ m', h1.append h3, by rw [h4, h2, List.append_assoc]⟩
theorem KP.perm {s s' : MSt} {A B : List Int} (h : KP s s' A) (hp : A.Perm B) : KP s s' B := by
 obtain ⟨m, h1, h2⟩ := h
 exact ⟨m, h1.trans hp, h2⟩
theorem KP.same {s s' : MSt} (h : s'.vars = s.vars) : KP s s' [] := ⟨[], .refl _, by simp [keys, h]⟩
theorem KP.left {s s' t : MSt} {A : List Int} (h : KP s s' A) (e : t.vars = s.vars) : KP t s' A := by
 obtain ⟨m, h1, h2⟩ := h
 exact ⟨m, h1, by rw [h2]; simp [keys, e]⟩
theorem KP.right {s s' t : MSt} {A : List Int} (h : KP s s' A) (e : t.vars = s'.vars) : KP s t A := by
 obtain ⟨m, h1, h2⟩ := h
 exact ⟨m, h1, by rw [← h2]; simp [keys, e]⟩
theorem KP.nodup {s s' : MSt} {A : List Int} (h : KP s s' A) {C : List Int} (hn : (keys s ++ (A ++ C)).Nodup) : (keys s' ++ C).Nodup := by
 obtain ⟨m, h1, h2⟩ := h
 rw [h2]
 have : (keys s ++ (A ++ C)).Perm (keys s ++ m ++ C) := by
  rw [List.append_assoc]
  exact (h1.symm.append_right C).append_left _
 exact this.nodup_iff.1 hn
theorem KP.bind (s : MSt) (v rs : List Int) (h : rs.length = v.length) : KP s (s.bind v rs) v := ⟨v, .refl _, by simp [keys, MSt.bind, List.map_fst_zip, h]⟩
theorem ite_vars {c : Prop} [Decidable c] {a b : MSt} {v : List (Int × Int)} (ha : a.vars = v) (hb : b.vars = v) : (if c then a else b).vars = v := by split <;> assumption
theorem strict_vars (op n d : Int) (l : List Int) (s : MSt) : (strict op n d l s).vars = s.vars := by
 unfold strict
 repeat' (refine ite_vars ?_ ?_)
 all_goals rfl
theorem ended_vars (op n : Int) (l : List Int) (s : MSt) : (ended op n l s).vars = s.vars := by
 unfold ended
 repeat' (refine ite_vars ?_ ?_)
 all_goals rfl
def EqI (x : Trm) : Prop := ∀ (nc nk : Int) (fr : Bool) (sc : Int → Bool) (d : Int) (e : Bool) (s : MSt), Trm.wf nc nk fr x sc = true → (keys s ++ x.bnd).Nodup → into lkF x d e s = into lkL x d e s ∧ KP s (into lkL x d e s) x.bnd
theorem lk_of {s : MSt} {B : List Int} (h : (keys s ++ B).Nodup) (v : Int) : lkF s.vars v = lkL s.vars v := lkF_eq _ _ (List.nodup_append.1 h).1
theorem eq_had {x : Trm} (hx : EqI x) {nc nk : Int} {fr : Bool} {sc : Int → Bool} {s : MSt} (hw : Trm.wf nc nk fr x sc = true) (hn : (keys s ++ x.bnd).Nodup) :
  hadW lkF x.op x.n (into lkF x) s = hadW lkL x.op x.n (into lkL x) s ∧ KP s (hadW lkL x.op x.n (into lkL x) s).2 x.bnd := by
 obtain ⟨op, n, v, t⟩ := x
 by_cases h1 : op = 1
 ·subst h1
  have hp := wf_parts hw
  have hv : v = [] := List.eq_nil_of_length_eq_zero (counts_novars (by decide) (by decide) hp.2.1)
  have ht : t = [] := by
   have := hp.2.1
   simp [Trm.countsB] at this
   exact this.2
  subst hv ht
  simp only [hadW, Trm.op, Trm.n, ↓reduceIte]
  exact ⟨by rw [lk_of hn], by simpa [Trm.bnd, Trm.bndL] using KP.refl s⟩
 ·have h := hx nc nk fr sc s.regs false s.fresh hw hn
  have e1 : ∀ lk, hadW lk (Trm.mk op n v t).op (Trm.mk op n v t).n (into lk (Trm.mk op n v t)) s = (s.regs, into lk (Trm.mk op n v t) s.regs false s.fresh) := fun lk => if_neg h1
  rw [e1, e1]
  exact ⟨by rw [h.1], h.2.left rfl⟩
theorem eq_all : ∀ (l : List Trm), (∀ x ∈ l, EqI x) → ∀ (nc nk : Int) (fr : Bool) (sc : Int → Bool) (s : MSt), (∀ x ∈ l, Trm.wf nc nk fr x sc = true) → (keys s ++ Trm.bndL l).Nodup → allT lkF l s = allT lkL l s ∧ KP s (allT lkL l s).2 (Trm.bndL l)
 | [], _, _, _, _, _, s, _, _ => ⟨by rw [allT, allT], by rw [allT]; exact KP.refl s⟩
 | x :: l, ih, nc, nk, fr, sc, s, hw, hn => by
  rw [Trm.bndL] at hn
  have h1 := eq_had (ih x (by simp)) (hw x (by simp)) (s := s) (by rw [← List.append_assoc] at hn; exact (List.nodup_append.1 hn).1)
  obtain ⟨r, hr⟩ : ∃ r, hadW lkL x.op x.n (into lkL x) s = r := ⟨_, rfl⟩
  rw [hr] at h1
  have h2 := eq_all l (fun y hy => ih y (by simp [hy])) nc nk fr sc r.2 (fun y hy => hw y (by simp [hy])) (h1.2.nodup hn)
  rw [allT, allT, hr, h1.1, Trm.bndL]
  dsimp only
  rw [h2.1]
  exact ⟨rfl, h1.2.trans h2.2⟩
theorem eq_seqs : ∀ (l : List Trm), (∀ x ∈ l, EqI x) → ∀ (nc nk : Int) (fr : Bool) (sc : Int → Bool) (d : Int) (e : Bool) (s : MSt), (∀ x ∈ l, Trm.wf nc nk fr x sc = true) → (keys s ++ Trm.bndL l).Nodup → seqs lkF l d e s = seqs lkL l d e s ∧ KP s (seqs lkL l d e s) (Trm.bndL l)
 | [], _, _, _, _, _, d, e, s, _, _ => ⟨by rw [seqs, seqs], by rw [seqs]; exact KP.refl s⟩
 | [x], ih, nc, nk, fr, sc, d, e, s, hw, hn => by
  simp only [Trm.bndL, List.append_nil] at hn ⊢
  rw [seqs, seqs]
  exact ih x (by simp) nc nk fr sc d e s (hw x (by simp)) hn
 | x :: y :: l, ih, nc, nk, fr, sc, d, e, s, hw, hn => by
  rw [Trm.bndL] at hn
  have h1 := eq_had (ih x (by simp)) (hw x (by simp)) (s := s) (by rw [← List.append_assoc] at hn; exact (List.nodup_append.1 hn).1)
  obtain ⟨r, hr⟩ : ∃ r, hadW lkL x.op x.n (into lkL x) s = r := ⟨_, rfl⟩
  rw [hr] at h1
  have h2 := eq_seqs (y :: l) (fun z hz => ih z (by simp [hz])) nc nk fr sc d e r.2 (fun z hz => hw z (by simp [hz])) (h1.2.nodup hn)
  rw [seqs, seqs, hr, h1.1, Trm.bndL]
  rw [h2.1]
  exact ⟨rfl, h1.2.trans h2.2⟩
theorem eq_lets : ∀ (l : List Trm), (∀ x ∈ l, EqI x) → l ≠ [] → ∀ (v rs : List Int) (nc nk : Int) (fr : Bool) (sc : Int → Bool) (d : Int) (e : Bool) (s : MSt), Trm.wfL nc nk fr 8 v l sc = true → (l.length - 1) + rs.length = v.length → (keys s ++ (v ++ Trm.bndL l)).Nodup →
  lets lkF l v rs d e s = lets lkL l v rs d e s ∧ KP s (lets lkL l v rs d e s) (v ++ Trm.bndL l)
 | [], _, hne, _, _, _, _, _, _, _, _, _, _, _, _ => absurd rfl hne
 | [x], ih, _, v, rs, nc, nk, fr, sc, d, e, s, hw, hl, hn => by
  rw [Trm.wfL] at hw
  simp only [Trm.bndL, List.append_nil] at hn ⊢
  rw [lets, lets]
  have hk := KP.bind s v rs (by simpa using hl)
  have h := ih x (by simp) nc nk fr _ d e (s.bind v rs) hw (hk.nodup hn)
  exact ⟨h.1, hk.trans h.2⟩
 | x :: y :: l, ih, _, v, rs, nc, nk, fr, sc, d, e, s, hw, hl, hn => by
  rw [Trm.wfL, if_neg (by decide), Bool.and_eq_true] at hw
  rw [Trm.bndL] at hn
  have hpm : (v ++ (x.bnd ++ Trm.bndL (y :: l))).Perm (x.bnd ++ (v ++ Trm.bndL (y :: l))) := by
   rw [← List.append_assoc, ← List.append_assoc]
   exact List.perm_append_comm.append_right _
  have hn' : (keys s ++ (x.bnd ++ (v ++ Trm.bndL (y :: l)))).Nodup := (hpm.append_left (keys s)).nodup_iff.1 hn
  have h1 := eq_had (ih x (by simp)) hw.1 (s := s) (by rw [← List.append_assoc] at hn'; exact (List.nodup_append.1 hn').1)
  obtain ⟨r, hr⟩ : ∃ r, hadW lkL x.op x.n (into lkL x) s = r := ⟨_, rfl⟩
  rw [hr] at h1
  have h2 := eq_lets (y :: l) (fun z hz => ih z (by simp [hz])) (by simp) v (rs ++ [r.1]) nc nk fr sc d e r.2 hw.2 (by simp at hl ⊢; omega) (h1.2.nodup hn')
  rw [lets, lets, hr, h1.1]
  rw [h2.1]
  refine ⟨rfl, (h1.2.trans h2.2).perm ?_⟩
  rw [show Trm.bndL (x :: y :: l) = x.bnd ++ Trm.bndL (y :: l) from by rw [Trm.bndL]]
  exact hpm.symm
theorem eq_fix1 : ∀ (v : List Int) (t : List Trm), t.length = v.length + 1 → ∀ s : MSt, KP s (fix1 v t s) v
 | [], t, _, s => by
  rw [fix1]
  ·exact KP.refl s
  ·simp
 | v :: vs, [], h, s => by simp at h
 | v :: vs, x :: l, h, s => by
  rw [fix1]
  have h1 : KP s ((s.fresh.bind [v] [s.regs]).put ⟨7, s.regs, x.n, 0, []⟩) [v] := ((KP.bind s.fresh [v] [s.regs] rfl).left rfl).right rfl
  exact h1.trans (eq_fix1 vs l (by simpa using h) _)
theorem eq_fixs : ∀ (l : List Trm), (∀ x ∈ l, EqI x ∧ ∀ y ∈ x.t, EqI y) → ∀ (v w : List Int) (nc nk : Int) (fr : Bool) (sc : Int → Bool) (d : Int) (e : Bool) (s : MSt), l.length = v.length + 1 → Trm.wfL nc nk fr 9 w l sc = true → (keys s ++ Trm.bndL l).Nodup →
  fixs lkF l v d e s = fixs lkL l v d e s ∧ KP s (fixs lkL l v d e s) (Trm.bndL l)
 | [], _, _, _, _, _, _, _, _, _, _, h, _, _ => by simp at h
 | [x], ih, v, w, nc, nk, fr, sc, d, e, s, _, hw, hn => by
  rw [Trm.wfL] at hw
  simp only [Trm.bndL, List.append_nil] at hn ⊢
  rw [fixs, fixs]
  exact (ih x (by simp)).1 nc nk fr _ d e s hw hn
 | .mk o m u t :: y :: l, ih, [], w, nc, nk, fr, sc, d, e, s, hl, _, _ => by simp at hl
 | .mk o m u t :: y :: l, ih, v :: vs, w, nc, nk, fr, sc, d, e, s, hl, hw, hn => by
  rw [Trm.wfL, if_pos rfl, Bool.and_eq_true, Bool.and_eq_true, decide_eq_true_eq] at hw
  obtain ⟨⟨ho, hx⟩, hw2⟩ := hw
  obtain rfl : o = 19 := ho
  have hu := counts_novars (by decide) (by decide) (wf_parts hx).2.1
  obtain rfl : u = [] := List.eq_nil_of_length_eq_zero hu
  have hall := wfL_all (by decide) (wf_parts hx).2.2.2
  rw [Trm.bndL, Trm.bnd, List.nil_append] at hn
  have h1 := eq_all t (fun z hz => (ih (.mk 19 m [] t) (by simp)).2 z hz) nc nk fr _ s hall (by rw [← List.append_assoc] at hn; exact (List.nodup_append.1 hn).1)
  obtain ⟨p, hp⟩ : ∃ p, allT lkL t s = p := ⟨_, rfl⟩
  rw [hp] at h1
  have hn2 := h1.2.nodup hn
  have hk : KP p.2 (p.2.put ⟨8, 0, lkL p.2.vars v, 0, p.1⟩) [] := KP.same rfl
  have h2 := eq_fixs (y :: l) (fun z hz => ih z (by simp [hz])) vs w nc nk fr sc d e (p.2.put ⟨8, 0, lkL p.2.vars v, 0, p.1⟩) (by simpa using hl) hw2 hn2
  rw [fixs, fixs, hp, h1.1]
  dsimp only [List.headD, List.head?, Option.getD, List.tail]
  rw [lk_of hn2, h2.1]
  refine ⟨rfl, ?_⟩
  rw [Trm.bndL, Trm.bnd, List.nil_append]
  simpa using (h1.2.trans hk).trans h2.2
theorem eq_choice (l : List Trm) (ih : ∀ x ∈ l, EqI x) (hl : l.length = 3) (nc nk : Int) (fr : Bool) (sc : Int → Bool) (d : Int) (e : Bool) (s : MSt) (hw : ∀ x ∈ l, Trm.wf nc nk fr x sc = true) (hn : (keys s ++ Trm.bndL l).Nodup) : choice lkF l d e s = choice lkL l d e s ∧ KP s (choice lkL l d e s) (Trm.bndL l) := by
 match l, hl with
 | [x, y, z], _ =>
  simp only [Trm.bndL, List.append_nil] at hn ⊢
  have h1 := eq_had (ih x (by simp)) (hw x (by simp)) (s := s) (by rw [← List.append_assoc] at hn; exact (List.nodup_append.1 hn).1)
  rw [choice, choice]
  obtain ⟨r, hr⟩ : ∃ r, hadW lkL x.op x.n (into lkL x) s = r := ⟨_, rfl⟩
  rw [hr] at h1 ⊢
  rw [h1.1]
  have hn2 := h1.2.nodup hn
  unfold thens
  dsimp only
  have h2 := ih y (by simp) nc nk fr sc d e (r.2.put ⟨16, 0, r.1, 0, []⟩) (hw y (by simp)) (by rw [← List.append_assoc] at hn2; exact (List.nodup_append.1 hn2).1)
  rw [h2.1]
  obtain ⟨s2, hs2⟩ : ∃ s2, into lkL y d e (r.2.put ⟨16, 0, r.1, 0, []⟩) = s2 := ⟨_, rfl⟩
  rw [hs2] at h2 ⊢
  have k2 : KP r.2 s2 y.bnd := h2.2.left rfl
  obtain ⟨s4, hs4⟩ : ∃ s4, (if e = true then s2 else s2.put ⟨15, 0, 0, 0, []⟩).setB r.2.code.length (if e = true then s2 else s2.put ⟨15, 0, 0, 0, []⟩).len = s4 := ⟨_, rfl⟩
  have v4 : s4.vars = s2.vars := by rw [← hs4]; cases e <;> rfl
  rw [hs4]
  have hn4 : (keys s4 ++ z.bnd).Nodup := by
   have := k2.nodup hn2
   rw [show keys s4 = keys s2 by simp [keys, v4]]
   exact this
  have h4 := ih z (by simp) nc nk fr sc d e s4 (hw z (by simp)) hn4
  rw [h4.1]
  refine ⟨rfl, h1.2.trans (k2.trans ?_)⟩
  have k4 : KP s2 (into lkL z d e s4) z.bnd := h4.2.left v4.symm
  cases e with
  | true => exact k4
  | false => exact k4.right rfl
theorem eq_into : ∀ (k : Nat) (x : Trm), x.all ≤ k → EqI x
 | 0, x, h => by have := x.all_pos; omega
 | k + 1, .mk op n v t, hk => by
  intro nc nk fr sc d e s hw hn
  have hp := wf_parts hw
  have ih : ∀ x ∈ t, EqI x := fun x hx => eq_into k x (by have := Trm.all_mem (o := op) (n := n) (v := v) hx; omega)
  rw [into, into]
  rw [Trm.bnd] at hn ⊢
  by_cases h8 : op = 8
  ·subst h8
   rw [if_neg (by decide), if_neg (by decide), if_pos rfl, if_neg (by decide), if_neg (by decide), if_pos rfl]
   have hl : t.length = v.length + 1 := by simpa [Trm.countsB] using hp.2.1
   exact eq_lets t ih (by intro h; simp [h] at hl) v [] nc nk fr sc d e s hp.2.2.2 (by simp; omega) hn
  by_cases h9 : op = 9
  ·subst h9
   rw [if_neg (by decide), if_neg (by decide), if_neg (by decide), if_pos rfl, if_neg (by decide), if_neg (by decide), if_neg (by decide), if_pos rfl]
   have hl : t.length = v.length + 1 := by simpa [Trm.countsB] using hp.2.1
   have h1 := eq_fix1 v t hl s
   have h2 := eq_fixs t (fun x hx => ⟨ih x hx, fun y hy => eq_into k y (by
    have h1 := Trm.all_mem (o := 9) (n := n) (v := v) hx
    obtain ⟨o', n', v', t'⟩ := x
    have h2 := Trm.all_mem (o := o') (n := n') (v := v') (show y ∈ t' from hy)
    omega)⟩) v v nc nk fr sc d e _ hl hp.2.2.2 (h1.nodup hn)
   exact ⟨h2.1, h1.trans h2.2⟩
  have hv0 := counts_novars h8 h9 hp.2.1
  obtain rfl : v = [] := List.eq_nil_of_length_eq_zero hv0
  have hall := wfL_all h9 hp.2.2.2
  simp only [List.nil_append] at hn ⊢
  by_cases h3 : op = 3
  ·subst h3
   rw [if_pos rfl, if_pos rfl]
   exact eq_choice t ih (by simpa [Trm.countsB] using hp.2.1) nc nk fr sc d e s hall hn
  rw [if_neg h3, if_neg h3]
  by_cases h6 : op = 6
  ·subst h6
   rw [if_pos rfl, if_pos rfl]
   exact eq_seqs t ih nc nk fr sc d e s hall hn
  rw [if_neg h6, if_neg h8, if_neg h9, if_neg h6, if_neg h8, if_neg h9]
  have ha := eq_all t ih nc nk fr sc s hall hn
  have hf := eq_all t ih nc nk fr sc s.fresh hall hn
  by_cases h1 : op = 1
  ·subst h1
   have ht : t = [] := by
    have := hp.2.1
    simp [Trm.countsB] at this
    exact this
   subst ht
   rw [lk_of hn]
   cases e <;> exact ⟨rfl, KP.same rfl⟩
  rw [if_neg h1, if_neg h1, if_neg h1, if_neg h1, ha.1, hf.1]
  refine ⟨rfl, ?_⟩
  cases e with
  | true =>
   rw [if_pos rfl]
   by_cases hen : endsB op n = true
   ·rw [if_pos hen]
    exact ha.2.right (ended_vars _ _ _ _)
   ·rw [if_neg hen]
    exact (hf.2.left rfl).right (strict_vars _ _ _ _ _)
  | false =>
   rw [if_neg (by simp)]
   exact ha.2.right (strict_vars _ _ _ _ _)
end Mk
namespace Mdl
theorem keys_proc (l : List Int) : Mk.keys ⟨[], l.length, l.zip ((List.range l.length).map fun (i : Nat) => (i : Int))⟩ = l := by simp [Mk.keys, List.map_fst_zip]
theorem proc_eq (c : Cod) {nc nk : Int} {fr : Bool} {sc : Int → Bool} (hw : Trm.wf nc nk fr c.body sc = true) (hn : (c.v ++ c.body.bnd).Nodup) : Mk.proc Mk.lkF c = Mk.proc Mk.lkL c := by
 unfold Mk.proc
 rw [(Mk.eq_into c.body.all c.body (Nat.le_refl _) nc nk fr sc 0 true _ hw (by rw [keys_proc]; exact hn)).1]
theorem codes_each {nc nk : Int} : ∀ {l : List Cod} {B : Int → Bool}, codesB nc nk l B = true → ∀ c ∈ l, Trm.wf nc nk true c.body (Trm.addV (fun _ => false) c.v) = true ∧ (c.v ++ c.body.bnd).Nodup ∧ (c.rest = true → 0 < c.v.length)
 | [], _, _, c, h => by simp at h
 | x :: l, B, h, c, hc => by
  rw [codesB] at h
  simp only [Bool.and_eq_true] at h
  obtain ⟨h1, h2, h3, h4⟩ := h
  rcases List.mem_cons.1 hc with rfl | hc
  ·exact ⟨h3, ((Trm.newB_iff _ _).1 h2).2, fun hr => by simpa [hr] using h1⟩
  ·exact codes_each h4 c hc
theorem unit_eq {m : Mdl} (h : m.okB = true) : m.unit Mk.lkF = m.unit Mk.lkL := by
 rw [okB] at h
 simp only [Bool.and_eq_true] at h
 obtain ⟨_, ⟨h1, h2⟩, h3⟩ := h
 unfold unit
 rw [proc_eq ⟨[], false, m.body⟩ h1 (by simpa using ((Trm.newB_iff _ _).1 h2).2), List.map_congr_left fun c hc => proc_eq c (codes_each h3 c hc).1 (codes_each h3 c hc).2.1]
end Mdl
end
section
namespace Mk
open Unt (named gives)
def AllAt (p : Nat → Ins → Prop) : Nat → List Ins → Prop
 | _, [] => True
 | b, x :: s => p b x ∧ AllAt p (b + 1) s
theorem AllAt.append {p : Nat → Ins → Prop} : ∀ {s t : List Ins} {b : Nat}, AllAt p b s → AllAt p (b + s.length) t → AllAt p b (s ++ t)
 | [], t, b, _, h => by simpa using h
 | x :: s, t, b, h1, h2 => ⟨h1.1, AllAt.append h1.2 (by rw [List.length_cons] at h2; rw [show b + 1 + s.length = b + (s.length + 1) by omega]; exact h2)⟩
theorem AllAt.imp {p q : Nat → Ins → Prop} : ∀ {s : List Ins} {b : Nat}, AllAt p b s → (∀ k x, b ≤ k → k < b + s.length → p k x → q k x) → AllAt q b s
 | [], _, _, _ => trivial
 | x :: s, b, h, hi => ⟨hi b x (Nat.le_refl _) (by simp) h.1, h.2.imp fun k y hk hl => hi k y (by omega) (by rw [List.length_cons]; omega)⟩
theorem AllAt.at {p : Nat → Ins → Prop} : ∀ {s : List Ins} {b i : Nat} {x : Ins}, AllAt p b s → s[i]? = some x → p (b + i) x
 | [], _, _, _, _, h => by simp at h
 | y :: s, b, 0, x, h, hx => by
  simp only [List.getElem?_cons_zero, Option.some.injEq] at hx
  rw [← hx]; exact h.1
 | y :: s, b, i + 1, x, h, hx => by
  have := h.2.at (i := i) (by simpa using hx)
  rw [show b + (i + 1) = b + 1 + i by omega]; exact this
def Fwd (e k : Nat) (x : Ins) : Prop := (0 ≤ x.op ∧ x.op ≤ 22) ∧ (x.op = 15 → (k : Int) + 1 < x.a ∧ x.a ≤ e) ∧ (x.op = 16 → (k : Int) < x.b ∧ x.b < e)
theorem Fwd.mono {e e' k : Nat} {x : Ins} (h : Fwd e k x) (he : e ≤ e') : Fwd e' k x := ⟨h.1, fun hx => ⟨(h.2.1 hx).1, by have := (h.2.1 hx).2; omega⟩, fun hx => ⟨(h.2.2 hx).1, by have := (h.2.2 hx).2; omega⟩⟩
theorem Frag.fwd {G E : Int → Prop} {b : Nat} {s : List Ins} (h : Frag G b s E) : AllAt (Fwd (b + s.length)) b s := by
 induction h with
 | nil => trivial
 | one G b x h1 h2 h3 => exact ⟨⟨by omega, fun h => absurd h h1.2.1, fun h => absurd h h1.2.2.1⟩, trivial⟩
 | @cat G E F b s t h1 h2 ih1 ih2 =>
  rw [List.length_append, ← Nat.add_assoc]
  exact (ih1.imp fun k x _ _ h => h.mono (by omega)).append ih2
 | sub h1 h2 ih => exact ih
 | @cond G E b s t c hc h1 h2 ht ih1 ih2 =>
  have hl : 0 < t.length := List.length_pos_iff.2 ht
  simp only [List.length_cons, List.length_append]
  refine ⟨⟨by simp, by simp, fun _ => ⟨by dsimp only; omega, by dsimp only; omega⟩⟩, (ih1.imp fun k x _ _ h => h.mono (by omega)).append ⟨⟨by simp, fun _ => ⟨by dsimp only; omega, by dsimp only; omega⟩, by simp⟩, ih2.imp fun k x _ _ h => h.mono (by omega)⟩⟩
end Mk
end
end Go.Proofs.YtigkhmppnnljiaaGreatDoor

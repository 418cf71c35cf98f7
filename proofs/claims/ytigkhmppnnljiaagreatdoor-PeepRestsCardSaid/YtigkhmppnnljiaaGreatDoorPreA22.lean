/-
  What the proofs lean on: Frag.
-/
import Derived.Test.YtigkhmppnnljiaaGreatDoorPreA20
set_option maxRecDepth 100000
set_option maxHeartbeats 16000000
namespace Go.Proofs.YtigkhmppnnljiaaGreatDoor
section
namespace Mk
open Unt (named gives)
inductive Frag : (Int → Prop) → Nat → List Ins → (Int → Prop) → Prop
 | nil (G : Int → Prop) (b : Nat) : Frag G b [] G
 | one (G : Int → Prop) (b : Nat) (x : Ins) : (0 ≤ x.op ∧ x.op ≠ 15 ∧ x.op ≠ 16 ∧ x.op < 19) → (∀ r ∈ named x, G r) → ¬ (x.op = 1 ∧ x.a = x.d) → Frag G b [x] (fun r => G r ∨ r = gives x)
 | cat {G E F : Int → Prop} {b : Nat} {s t : List Ins} : Frag G b s E → Frag E (b + s.length) t F → Frag G b (s ++ t) F
 | sub {G E F : Int → Prop} {b : Nat} {s : List Ins} : Frag G b s E → (∀ r, F r → E r) → Frag G b s F
 | cond {G E : Int → Prop} {b : Nat} {s t : List Ins} (c : Int) : G c → Frag G (b + 1) s E → Frag G (b + 1 + s.length + 1) t E → t ≠ [] →
   Frag G b (⟨16, 0, c, (b + 1 + s.length + 1 : Nat), []⟩ :: (s ++ ⟨15, 0, (b + 1 + s.length + 1 + t.length : Nat), 0, []⟩ :: t)) E
inductive FragE : (Int → Prop) → Nat → List Ins → Prop
 | one (G : Int → Prop) (b : Nat) (x : Ins) : (19 ≤ x.op ∧ x.op ≤ 22) → (∀ r ∈ named x, G r) → FragE G b [x]
 | cat {G E : Int → Prop} {b : Nat} {s t : List Ins} : Frag G b s E → FragE E (b + s.length) t → FragE G b (s ++ t)
 | cond {G : Int → Prop} {b : Nat} {s t : List Ins} (c : Int) : G c → FragE G (b + 1) s → FragE G (b + 1 + s.length) t → FragE G b (⟨16, 0, c, (b + 1 + s.length : Nat), []⟩ :: (s ++ t))
theorem lkL_zip : ∀ (v r : List Int) (l : List (Int × Int)) (x : Int), x ∉ v → lkL (l ++ v.zip r) x = lkL l x
 | [], _, l, x, _ => by simp
 | _ :: _, [], l, x, _ => by simp
 | y :: v, q :: r, l, x, h => by
  rw [List.zip_cons_cons, show l ++ (y, q) :: v.zip r = (l ++ [(y, q)]) ++ v.zip r by simp, lkL_zip v r _ x (fun hx => h (by simp [hx])), lkL_snoc, if_neg (fun e => h (by simp [e]))]
theorem lkL_in : ∀ (v r : List Int) (l : List (Int × Int)) (x : Int), x ∈ v → r.length = v.length → lkL (l ++ v.zip r) x ∈ r
 | [], _, l, x, h, _ => by simp at h
 | _ :: _, [], l, x, h, hl => by simp at hl
 | y :: v, q :: r, l, x, h, hl => by
  rw [List.zip_cons_cons, show l ++ (y, q) :: v.zip r = (l ++ [(y, q)]) ++ v.zip r by simp]
  by_cases hx : x ∈ v
  ·exact List.mem_cons_of_mem _ (lkL_in v r _ x hx (by simpa using hl))
  ·obtain rfl : x = y := by rcases List.mem_cons.1 h with e | e; exact e; exact absurd e hx
   rw [lkL_zip v r _ _ hx, lkL_snoc, if_pos rfl]
   simp
def Env (G : Int → Prop) (d : Int) (e : Bool) (s : MSt) (sc : Int → Bool) : Prop := ∀ v, sc v = true → G (lkL s.vars v) ∧ (e = false → lkL s.vars v ≠ d) ∧ lkL s.vars v < s.regs
structure Lays (s s' : MSt) (seg : List Ins) (B : List Int) : Prop where
 code : s'.code = s.code ++ seg
 regs : s.regs ≤ s'.regs
 vars : ∀ x, x ∉ B → lkL s'.vars x = lkL s.vars x
theorem Lays.refl (s : MSt) (B : List Int) : Lays s s [] B := ⟨by simp, Int.le_refl _, fun _ _ => rfl⟩
theorem Lays.trans {s s' s'' : MSt} {a b : List Ins} {B C : List Int} (h : Lays s s' a B) (h' : Lays s' s'' b C) : Lays s s'' (a ++ b) (B ++ C) :=
 ⟨by rw [h'.code, h.code, List.append_assoc], Int.le_trans h.regs h'.regs, fun x hx => by
  simp only [List.mem_append, not_or] at hx
  rw [h'.vars x hx.2, h.vars x hx.1]⟩
theorem Lays.wider {s s' : MSt} {a : List Ins} {B C : List Int} (h : Lays s s' a B) (hB : ∀ x ∈ B, x ∈ C) : Lays s s' a C := ⟨h.code, h.regs, fun x hx => h.vars x fun hb => hx (hB x hb)⟩
theorem Lays.put (s : MSt) (x : Ins) (B : List Int) : Lays s (s.put x) [x] B := ⟨rfl, Int.le_refl _, fun _ _ => rfl⟩
theorem Lays.fresh (s : MSt) (B : List Int) : Lays s s.fresh [] B := ⟨by simp [MSt.fresh], by simp only [MSt.fresh]; omega, fun _ _ => rfl⟩
theorem Lays.bind (s : MSt) (v r : List Int) : Lays s (s.bind v r) [] v := ⟨by simp [MSt.bind], Int.le_refl _, fun x hx => lkL_zip v r _ x hx⟩
theorem Frag.head {G E : Int → Prop} {b : Nat} {s : List Ins} (h : Frag G b s E) : ∀ x l, s = x :: l → x.op ≠ 15 := by
 induction h with
 | nil => intro x l h; cases h
 | one G b x h1 h2 h3 => intro y l h; simp only [List.cons.injEq] at h; rw [← h.1]; exact h1.2.1
 | @cat G E F b s t h1 h2 ih1 ih2 =>
  intro y l h
  cases s with
  | nil => exact ih2 y l (by simpa using h)
  | cons z s => simp only [List.cons_append, List.cons.injEq] at h; exact ih1 y s (by rw [h.1])
 | sub h1 h2 ih => exact ih
 | cond c _ _ _ _ _ _ => intro y l h; simp only [List.cons.injEq] at h; rw [← h.1]; simp
theorem FragE.head {G : Int → Prop} {b : Nat} {s : List Ins} (h : FragE G b s) : ∃ x l, s = x :: l ∧ x.op ≠ 15 := by
 induction h with
 | one G b x h1 h2 => exact ⟨x, [], rfl, by omega⟩
 | @cat G E b s t h1 h2 ih =>
  obtain ⟨x, l, rfl, hx⟩ := ih
  cases s with
  | nil => exact ⟨x, l, rfl, hx⟩
  | cons z s => exact ⟨z, s ++ x :: l, rfl, h1.head z s rfl⟩
 | cond c _ _ _ _ _ => exact ⟨_, _, rfl, by simp⟩
def Piece (e : Bool) (G : Int → Prop) (d : Int) (b : Nat) (s : List Ins) : Prop := match e with
 | true => FragE G b s
 | false => Frag G b s (fun r => G r ∨ r = d)
theorem Piece.after {e : Bool} {G E : Int → Prop} {d : Int} {b b' : Nat} {s t : List Ins} (h1 : Frag G b s E) (hE : ∀ r, G r → E r) (hb : b' = b + s.length) (h2 : Piece e E d b' t) : Piece e G d b (s ++ t) := by
 subst hb
 cases e with
 | true => exact .cat h1 h2
 | false => exact .sub (.cat h1 h2) fun r hr => hr.imp (hE r) id
theorem Env.step {G G' : Int → Prop} {d : Int} {e : Bool} {s s' : MSt} {sc : Int → Bool} {seg : List Ins} {B : List Int} (h : Env G d e s sc) (hG : ∀ r, G r → G' r) (hs : Lays s s' seg B) (hB : ∀ v, sc v = true → v ∉ B) : Env G' d e s' sc := fun v hv => by
 rw [hs.vars v (hB v hv)]
 exact ⟨hG _ (h v hv).1, (h v hv).2.1, Int.lt_of_lt_of_le (h v hv).2.2 hs.regs⟩
theorem Env.fresh {G : Int → Prop} {d : Int} {e : Bool} {s : MSt} {sc : Int → Bool} (h : Env G d e s sc) : Env G s.regs false s.fresh sc := fun v hv => by
 have h1 := h v hv
 refine ⟨h1.1, fun _ hh => ?_, ?_⟩
 ·have h2 : lkL s.vars v = s.regs := hh
  omega
 ·have h2 : lkL s.vars v < s.regs + 1 := by omega
  exact h2
def plainB (op : Int) : Bool := [0, 5, 10, 11, 12, 13, 15, 16, 17, 18, 19, 20, 21, 22].contains op
theorem lays_one (G : Int → Prop) (s : MSt) (x : Ins) (hx : 0 ≤ x.op ∧ x.op ≠ 15 ∧ x.op ≠ 16 ∧ x.op < 19) (hn : ∀ r ∈ named x, G r) (hm : ¬ (x.op = 1 ∧ x.a = x.d)) (d : Int) (hd : gives x = d) : ∃ seg, Lays s (s.put x) seg [] ∧ seg ≠ [] ∧ Frag G s.code.length seg (fun r => G r ∨ r = d) :=
 ⟨[x], .put s x [], by simp, hd ▸ .one G _ x hx hn hm⟩
theorem lays_two (G : Int → Prop) (s : MSt) (x y : Ins) (hx : 0 ≤ x.op ∧ x.op ≠ 15 ∧ x.op ≠ 16 ∧ x.op < 19) (hn : ∀ r ∈ named x, G r) (hm : ¬ (x.op = 1 ∧ x.a = x.d)) (hy : 0 ≤ y.op ∧ y.op ≠ 15 ∧ y.op ≠ 16 ∧ y.op < 19) (hyn : named y = []) (hym : ¬ (y.op = 1 ∧ y.a = y.d)) (d : Int) (hd : gives y = d) :
  ∃ seg, Lays s ((s.put x).put y) seg [] ∧ seg ≠ [] ∧ Frag G s.code.length seg (fun r => G r ∨ r = d) :=
 ⟨[x] ++ [y], (Lays.put s x []).trans (.put _ y []), by simp, .sub (.cat (.one G _ x hx hn hm) (.one _ _ y hy (by rw [hyn]; simp) hym)) fun r hr => by
  rcases hr with hr | hr
  ·exact .inl (.inl hr)
  ·exact .inr (hr.trans hd.symm)⟩
theorem lays_strict (G : Int → Prop) (op n d : Int) (l : List Int) (s : MSt) (nt : Nat) (hp : plainB op = true) (hc : Trm.countsB op 0 nt = true) (hl : l.length = nt) (hG : ∀ r ∈ l, G r) : ∃ seg, Lays s (strict op n d l s) seg [] ∧ seg ≠ [] ∧ Frag G s.code.length seg (fun r => G r ∨ r = d) := by
 subst hl
 simp only [plainB, List.contains_eq_mem, decide_eq_true_eq, List.mem_cons, List.not_mem_nil, or_false] at hp
 rcases hp with rfl | rfl | rfl | rfl | rfl | rfl | rfl | rfl | rfl | rfl | rfl | rfl | rfl | rfl <;> simp [Trm.countsB] at hc
 ·exact lays_one G s _ (by simp) (by simp [named]) (by simp) d rfl
 ·match l, hc with
  | a :: l, _ => exact lays_one G s _ (by simp) (by simpa [named] using hG) (by simp) d rfl
 ·exact lays_one G s _ (by simp) (by simpa [named] using hG) (by simp) d rfl
 ·exact lays_one G s _ (by simp) (by simp [named]) (by simp) d rfl
 ·match l, hc with
  | [a], _ => exact lays_one G s _ (by simp) (by simpa [named] using hG) (by simp) d rfl
 ·exact lays_one G s _ (by simp) (by simp [named]) (by simp) d rfl
 ·match l, hc with
  | [a], _ => exact lays_one G s _ (by simp) (by simpa [named] using hG) (by simp) d rfl
 ·match l, hc with
  | [a], _ => exact lays_one G s _ (by simp) (by simpa [named] using hG) (by simp) d rfl
 ·match l, hc with
  | [a, b], _ => exact lays_two G s _ _ (by simp) (by simpa [named] using hG) (by simp) (by simp) (by simp [named]) (by simp) d rfl
 ·match l, hc with
  | [a, b], _ => exact lays_two G s _ _ (by simp) (by simpa [named] using hG) (by simp) (by simp) (by simp [named]) (by simp) d rfl
 ·exact lays_one G s _ (by simp) (by simpa [named] using hG) (by simp) d rfl
 ·exact lays_one G s _ (by simp) (by simp [named]) (by simp) d rfl
 ·exact lays_one G s _ (by simp) (by simp [named]) (by simp) d rfl
 ·match l, hc with
  | a :: l, _ => exact lays_one G s _ (by simp) (by simpa [named] using hG) (by simp) d rfl
theorem ends_counts {op n : Int} {nt : Nat} (he : endsB op n = true) (hc : Trm.countsB op 0 nt = true) : op = 10 ∨ 1 ≤ nt := by
 simp only [endsB, Bool.or_eq_true, Bool.and_eq_true, decide_eq_true_eq] at he
 rcases he with rfl | rfl | h
 ·right; simpa [Trm.countsB] using hc
 ·right; simpa [Trm.countsB] using hc
 ·exact .inl h.1
theorem lays_ended (G : Int → Prop) (op n : Int) (l : List Int) (s : MSt) (he : endsB op n = true) (hl : op = 10 ∨ 1 ≤ l.length) (hG : ∀ r ∈ l, G r) : ∃ seg, Lays s (ended op n l s) seg [] ∧ seg ≠ [] ∧ FragE G s.code.length seg := by
 have one : ∀ x : Ins, (19 ≤ x.op ∧ x.op ≤ 22) → (∀ r ∈ named x, G r) → ∃ seg, Lays s (s.put x) seg [] ∧ seg ≠ [] ∧ FragE G s.code.length seg := fun x h1 h2 => ⟨[x], .put s x [], by simp, .one G _ x h1 h2⟩
 simp only [endsB, Bool.or_eq_true, Bool.and_eq_true, decide_eq_true_eq] at he
 rcases he with rfl | rfl | ⟨rfl, _⟩
 ·match l, hl with
  | a :: l, _ => exact one _ (by simp) (by simpa [named] using hG)
  | [], h => simp at h
 ·match l, hl with
  | a :: l, _ => exact one _ (by simp) (by simpa [named] using hG)
  | [], h => simp at h
 ·exact one _ (by simp) (by simpa [named] using hG)
theorem wfL_all {nc nk : Int} {fr : Bool} {op : Int} (ho : op ≠ 9) : ∀ {l : List Trm} {sc : Int → Bool}, Trm.wfL nc nk fr op [] l sc = true → ∀ x ∈ l, Trm.wf nc nk fr x sc = true
 | [], _, _, x, hx => by simp at hx
 | [y], sc, h, x, hx => by
  rw [Trm.wfL, Trm.addV_nil] at h
  rw [List.mem_singleton.1 hx]; exact h
 | y :: z :: l, sc, h, x, hx => by
  rw [Trm.wfL, if_neg ho, Bool.and_eq_true] at h
  rcases List.mem_cons.1 hx with rfl | hx
  ·exact h.1
  ·exact wfL_all ho h.2 x hx
theorem wf_parts {nc nk : Int} {fr : Bool} {op n : Int} {v : List Int} {t : List Trm} {sc : Int → Bool} (h : Trm.wf nc nk fr (.mk op n v t) sc = true) : Trm.sortB op = true ∧ Trm.countsB op v.length t.length = true ∧ Trm.numberB nc nk fr sc op n = true ∧ Trm.wfL nc nk fr op v t sc = true := by
 rw [Trm.wf] at h
 simpa [Bool.and_eq_true] using h
theorem counts_novars {op : Int} {nv nt : Nat} (h8 : op ≠ 8) (h9 : op ≠ 9) (h : Trm.countsB op nv nt = true) : nv = 0 := by
 rw [Trm.countsB, if_neg (by omega)] at h
 simp only [Bool.and_eq_true, decide_eq_true_eq] at h
 exact h.1
theorem plain_of {op : Int} (hs : Trm.sortB op = true) (h1 : op ≠ 1) (h3 : op ≠ 3) (h6 : op ≠ 6) (h8 : op ≠ 8) (h9 : op ≠ 9) : plainB op = true := by
 simp only [Trm.sortB, plainB, List.contains_eq_mem, decide_eq_true_eq, List.mem_cons, List.not_mem_nil, or_false] at hs ⊢
 omega
def LaysInto (x : Trm) : Prop := ∀ (nc nk : Int) (fr : Bool) (sc : Int → Bool) (d : Int) (e : Bool) (s : MSt) (G : Int → Prop), Trm.wf nc nk fr x sc = true → Env G d e s sc → (∀ v, sc v = true → v ∉ x.bnd) → x.bnd.Nodup → (e = false → d < s.regs) →
 ∃ seg, Lays s (into lkL x d e s) seg x.bnd ∧ seg ≠ [] ∧ Piece e G d s.code.length seg
theorem lays_had {x : Trm} (hx : LaysInto x) {nc nk : Int} {fr : Bool} {sc : Int → Bool} {d : Int} {e : Bool} {s : MSt} {G : Int → Prop} (hw : Trm.wf nc nk fr x sc = true) (hE : Env G d e s sc) (hB : ∀ v, sc v = true → v ∉ x.bnd) (hN : x.bnd.Nodup) (hd : e = false → d < s.regs) :
  ∃ seg, Lays s (hadW lkL x.op x.n (into lkL x) s).2 seg x.bnd ∧ Frag G s.code.length seg (fun r => G r ∨ r = (hadW lkL x.op x.n (into lkL x) s).1) ∧ (e = false → (hadW lkL x.op x.n (into lkL x) s).1 ≠ d) ∧ (hadW lkL x.op x.n (into lkL x) s).1 < (hadW lkL x.op x.n (into lkL x) s).2.regs := by
 obtain ⟨op, n, v, t⟩ := x
 by_cases h1 : op = 1
 ·subst h1
  have hn := (wf_parts hw).2.2.1
  have hs : sc n = true := by simpa [Trm.numberB] using hn
  have he := hE n hs
  simp only [hadW, Trm.op, Trm.n, ↓reduceIte]
  exact ⟨[], .refl s _, .sub (.nil G _) fun r hr => by
   rcases hr with hr | rfl
   ·exact hr
   ·exact he.1, he.2⟩
 ·have hh : hadW lkL (Trm.mk op n v t).op (Trm.mk op n v t).n (into lkL (Trm.mk op n v t)) s = (s.regs, into lkL (Trm.mk op n v t) s.regs false s.fresh) := if_neg h1
  rw [hh]
  obtain ⟨seg, l1, l2, l3⟩ := hx nc nk fr sc s.regs false s.fresh G hw hE.fresh hB hN (fun _ => by simp only [MSt.fresh]; omega)
  refine ⟨seg, by simpa using (Lays.fresh s []).trans l1, l3, fun he => ?_, ?_⟩
  ·have := hd he
   show s.regs ≠ d
   omega
  ·have h2 : s.fresh.regs ≤ _ := l1.regs
   have h3 : s.regs < s.fresh.regs := by simp only [MSt.fresh]; omega
   exact Int.lt_of_lt_of_le h3 h2
theorem Env.or {G : Int → Prop} {d : Int} {e : Bool} {s s' : MSt} {sc : Int → Bool} {seg : List Ins} {B : List Int} (F : Int → Prop) (h : Env G d e s sc) (hs : Lays s s' seg B) (hB : ∀ v, sc v = true → v ∉ B) : Env (fun r => G r ∨ F r) d e s' sc := h.step (fun _ h => .inl h) hs hB
theorem lays_all : ∀ (l : List Trm), (∀ x ∈ l, LaysInto x) → ∀ (nc nk : Int) (fr : Bool) (sc : Int → Bool) (d : Int) (e : Bool) (s : MSt) (G : Int → Prop), (∀ x ∈ l, Trm.wf nc nk fr x sc = true) → Env G d e s sc → (∀ v, sc v = true → v ∉ Trm.bndL l) → (Trm.bndL l).Nodup → (e = false → d < s.regs) →
  ∃ seg, Lays s (allT lkL l s).2 seg (Trm.bndL l) ∧ Frag G s.code.length seg (fun r => G r ∨ r ∈ (allT lkL l s).1) ∧ (allT lkL l s).1.length = l.length ∧ ∀ r ∈ (allT lkL l s).1, (e = false → r ≠ d) ∧ r < (allT lkL l s).2.regs
 | [], _, _, _, _, _, d, e, s, G, _, _, _, _, _ => ⟨[], by rw [allT]; exact .refl s _, by rw [allT]; exact .sub (.nil G _) (by simp), by rw [allT]; rfl, by rw [allT]; simp⟩
 | x :: l, ih, nc, nk, fr, sc, d, e, s, G, hw, hE, hB, hN, hd => by
  rw [Trm.bndL] at hN hB
  have hNx := (List.nodup_append.1 hN).1
  have hNl := (List.nodup_append.1 hN).2.1
  obtain ⟨s1, a1, a2, a3, a4⟩ := lays_had (ih x (by simp)) (hw x (by simp)) hE (fun v hv hx => hB v hv (List.mem_append_left _ hx)) hNx hd
  obtain ⟨r, hr⟩ : ∃ r, hadW lkL x.op x.n (into lkL x) s = r := ⟨_, rfl⟩
  rw [hr] at a1 a2 a3 a4
  have hE1 := hE.or (fun q => q = r.1) a1 (fun v hv hx => hB v hv (List.mem_append_left _ hx))
  obtain ⟨s2, b1, b2, b3, b4⟩ := lays_all l (fun y hy => ih y (by simp [hy])) nc nk fr sc d e r.2 _ (fun y hy => hw y (by simp [hy])) hE1 (fun v hv hx => hB v hv (List.mem_append_right _ hx)) hNl (fun he => Int.lt_of_lt_of_le (hd he) a1.regs)
  have ha : allT lkL (x :: l) s = (r.1 :: (allT lkL l r.2).1, (allT lkL l r.2).2) := by rw [allT, hr]
  rw [ha, Trm.bndL]
  refine ⟨s1 ++ s2, a1.trans b1, .sub (.cat a2 (by rw [a1.code, List.length_append] at b2; exact b2)) fun q hq => ?_, by simp [b3], fun q hq => ?_⟩
  ·rcases hq with hq | hq
   ·exact .inl (.inl hq)
   ·rcases List.mem_cons.1 hq with rfl | hq
    ·exact .inl (.inr rfl)
    ·exact .inr hq
  ·rcases List.mem_cons.1 hq with rfl | hq
   ·exact ⟨a3, Int.lt_of_lt_of_le a4 b1.regs⟩
   ·exact b4 q hq
theorem lays_seqs : ∀ (l : List Trm), (∀ x ∈ l, LaysInto x) → l ≠ [] → ∀ (nc nk : Int) (fr : Bool) (sc : Int → Bool) (d : Int) (e : Bool) (s : MSt) (G : Int → Prop), (∀ x ∈ l, Trm.wf nc nk fr x sc = true) → Env G d e s sc → (∀ v, sc v = true → v ∉ Trm.bndL l) → (Trm.bndL l).Nodup → (e = false → d < s.regs) →
  ∃ seg, Lays s (seqs lkL l d e s) seg (Trm.bndL l) ∧ seg ≠ [] ∧ Piece e G d s.code.length seg
 | [], _, hne, _, _, _, _, _, _, _, _, _, _, _, _, _ => absurd rfl hne
 | [x], ih, _, nc, nk, fr, sc, d, e, s, G, hw, hE, hB, hN, hd => by
  simp only [Trm.bndL, List.append_nil] at hB hN ⊢
  rw [seqs]
  exact ih x (by simp) nc nk fr sc d e s G (hw x (by simp)) hE hB hN hd
 | x :: y :: l, ih, _, nc, nk, fr, sc, d, e, s, G, hw, hE, hB, hN, hd => by
  rw [Trm.bndL] at hN hB
  have hNx := (List.nodup_append.1 hN).1
  have hNl := (List.nodup_append.1 hN).2.1
  obtain ⟨s1, a1, a2, a3, a4⟩ := lays_had (ih x (by simp)) (hw x (by simp)) hE (fun v hv hx => hB v hv (List.mem_append_left _ hx)) hNx hd
  rw [seqs]
  obtain ⟨r, hr⟩ : ∃ r, hadW lkL x.op x.n (into lkL x) s = r := ⟨_, rfl⟩
  rw [hr] at a1 a2 a3 a4 ⊢
  have hE1 := hE.or (fun q => q = r.1) a1 (fun v hv hx => hB v hv (List.mem_append_left _ hx))
  obtain ⟨s2, b1, b2, b3⟩ := lays_seqs (y :: l) (fun z hz => ih z (by simp [hz])) (by simp) nc nk fr sc d e r.2 _ (fun z hz => hw z (by simp [hz])) hE1 (fun v hv hx => hB v hv (List.mem_append_right _ hx)) hNl (fun he => Int.lt_of_lt_of_le (hd he) a1.regs)
  rw [Trm.bndL]
  refine ⟨s1 ++ s2, a1.trans b1, by simp [b2], Piece.after a2 (fun _ h => .inl h) (by rw [a1.code, List.length_append]) b3⟩
theorem modify_mid {α : Type} (f : α → α) (x : α) (r : List α) : ∀ l : List α, (l ++ x :: r).modify l.length f = l ++ f x :: r
 | [] => by simp
 | y :: l => by simpa using modify_mid f x r l
theorem lays_lets : ∀ (l : List Trm), (∀ x ∈ l, LaysInto x) → l ≠ [] → ∀ (v rs : List Int) (nc nk : Int) (fr : Bool) (sc : Int → Bool) (d : Int) (e : Bool) (s : MSt) (G : Int → Prop), Trm.wfL nc nk fr 8 v l sc = true → (l.length - 1) + rs.length = v.length → (∀ r ∈ rs, G r ∧ (e = false → r ≠ d) ∧ r < s.regs) → Env G d e s sc → (∀ w, sc w = true → w ∉ v ∧ w ∉ Trm.bndL l) → (v ++ Trm.bndL l).Nodup → (e = false → d < s.regs) →
  ∃ seg, Lays s (lets lkL l v rs d e s) seg (v ++ Trm.bndL l) ∧ seg ≠ [] ∧ Piece e G d s.code.length seg
 | [], _, hne, _, _, _, _, _, _, _, _, _, _, _, _, _, _, _, _, _ => absurd rfl hne
 | [x], ih, _, v, rs, nc, nk, fr, sc, d, e, s, G, hw, hl, hr, hE, hB, hN, hd => by
  rw [Trm.wfL] at hw
  simp only [Trm.bndL, List.append_nil] at hB hN ⊢
  rw [lets]
  have hlen : rs.length = v.length := by simpa using hl
  have hE1 : Env G d e (s.bind v rs) (Trm.addV sc v) := fun w hw => by
   by_cases hv : w ∈ v
   ·have := hr _ (lkL_in v rs s.vars w hv hlen)
    exact this
   ·have hs : sc w = true := by simpa [Trm.addV, hv] using hw
    rw [show lkL (s.bind v rs).vars w = lkL s.vars w from lkL_zip v rs _ w hv]
    exact hE w hs
  obtain ⟨seg, a1, a2, a3⟩ := ih x (by simp) nc nk fr _ d e (s.bind v rs) G hw hE1 (fun w hw hx => by
   by_cases hv : w ∈ v
   ·exact (List.nodup_append.1 hN).2.2 w hv w hx rfl
   ·have hs : sc w = true := by simpa [Trm.addV, hv] using hw
    exact (hB w hs).2 hx) (List.nodup_append.1 hN).2.1 hd
  exact ⟨seg, by simpa using (Lays.bind s v rs).trans a1, a2, a3⟩
 | x :: y :: l, ih, _, v, rs, nc, nk, fr, sc, d, e, s, G, hw, hl, hr, hE, hB, hN, hd => by
  rw [Trm.wfL, if_neg (by decide), Bool.and_eq_true] at hw
  rw [Trm.bndL] at hN hB
  have hN1 := List.nodup_append.1 hN
  have hN2 := List.nodup_append.1 hN1.2.1
  obtain ⟨s1, a1, a2, a3, a4⟩ := lays_had (ih x (by simp)) hw.1 hE (fun w hv hx => (hB w hv).2 (List.mem_append_left _ hx)) hN2.1 hd
  rw [lets]
  obtain ⟨r, hre⟩ : ∃ r, hadW lkL x.op x.n (into lkL x) s = r := ⟨_, rfl⟩
  rw [hre] at a1 a2 a3 a4 ⊢
  have hE1 := hE.or (fun q => q = r.1) a1 (fun w hv hx => (hB w hv).2 (List.mem_append_left _ hx))
  obtain ⟨s2, b1, b2, b3⟩ := lays_lets (y :: l) (fun z hz => ih z (by simp [hz])) (by simp) v (rs ++ [r.1]) nc nk fr sc d e r.2 _ hw.2 (by simp at hl ⊢; omega) (fun q hq => by
   rcases List.mem_append.1 hq with hq | hq
   ·exact ⟨.inl (hr q hq).1, (hr q hq).2.1, Int.lt_of_lt_of_le (hr q hq).2.2 a1.regs⟩
   ·rw [List.mem_singleton.1 hq]; exact ⟨.inr rfl, a3, a4⟩) hE1 (fun w hv => ⟨(hB w hv).1, fun hx => (hB w hv).2 (List.mem_append_right _ hx)⟩) (List.nodup_append.2 ⟨hN1.1, hN2.2.1, fun a ha b hb => hN1.2.2 a ha b (List.mem_append_right _ hb)⟩) (fun he => Int.lt_of_lt_of_le (hd he) a1.regs)
  refine ⟨s1 ++ s2, (a1.trans b1).wider ?_, by simp [b2], Piece.after a2 (fun _ h => .inl h) (by rw [a1.code, List.length_append]) b3⟩
  rw [show Trm.bndL (x :: y :: l) = x.bnd ++ Trm.bndL (y :: l) from by rw [Trm.bndL]]
  intro w hw
  simp only [List.mem_append] at hw ⊢
  rcases hw with h | h | h
  ·exact .inr (.inl h)
  ·exact .inl h
  ·exact .inr (.inr h)
theorem lays_fix1 : ∀ (v : List Int) (t : List Trm), t.length = v.length + 1 → ∀ (sc : Int → Bool) (d : Int) (e : Bool) (s : MSt) (G : Int → Prop), Env G d e s sc → (∀ w, sc w = true → w ∉ v) → v.Nodup → (e = false → d < s.regs) →
  ∃ seg F, Lays s (fix1 v t s) seg v ∧ Frag G s.code.length seg F ∧ (∀ r, G r → F r) ∧ Env F d e (fix1 v t s) (Trm.addV sc v)
 | [], t, _, sc, d, e, s, G, hE, _, _, _ => by
  rw [fix1]
  ·exact ⟨[], G, .refl s _, .nil G _, fun _ h => h, by rw [Trm.addV_nil]; exact hE⟩
  ·simp
 | v :: vs, [], ht, _, _, _, _, _, _, _, _, _ => by simp at ht
 | v :: vs, x :: l, ht, sc, d, e, s, G, hE, hB, hN, hd => by
  rw [fix1]
  obtain ⟨s1, hs1⟩ : ∃ s1, (s.fresh.bind [v] [s.regs]).put ⟨7, s.regs, x.n, 0, []⟩ = s1 := ⟨_, rfl⟩
  have l1 : Lays s s1 [⟨7, s.regs, x.n, 0, []⟩] [v] := by
   rw [← hs1]
   simpa using ((Lays.fresh s []).trans (Lays.bind s.fresh [v] [s.regs])).trans (Lays.put _ ⟨7, s.regs, x.n, 0, []⟩ [])
  have hvs : ∀ w, lkL s1.vars w = if w = v then s.regs else lkL s.vars w := fun w => by rw [← hs1]; exact lkL_snoc s.vars v s.regs w
  have hre : s1.regs = s.regs + 1 := by rw [← hs1]; rfl
  have hf : Frag G s.code.length [⟨7, s.regs, x.n, 0, []⟩] (fun r => G r ∨ r = s.regs) := .one G _ ⟨7, s.regs, x.n, 0, []⟩ (by simp) (by simp [named]) (by simp)
  have hE1 : Env (fun r => G r ∨ r = s.regs) d e s1 (Trm.addV sc [v]) := fun w hw => by
   rw [hvs w]
   by_cases hv : w = v
   ·rw [if_pos hv, hre]
    exact ⟨.inr rfl, fun he hh => by have := hd he; omega, by omega⟩
   ·rw [if_neg hv, hre]
    have h := hE w (by simpa [Trm.addV, hv] using hw)
    exact ⟨.inl h.1, h.2.1, by have := h.2.2; omega⟩
  rw [hs1]
  obtain ⟨s2, F, b1, b2, b3, b4⟩ := lays_fix1 vs l (by simpa using ht) (Trm.addV sc [v]) d e s1 _ hE1 (fun w hw hx => by
   by_cases hv : w = v
   ·exact (List.nodup_cons.1 hN).1 (hv ▸ hx)
   ·exact hB w (by simpa [Trm.addV, hv] using hw) (by simp [hx])) (List.nodup_cons.1 hN).2 (fun he => by have := hd he; omega)
  refine ⟨_ ++ s2, F, by simpa using l1.trans b1, .cat hf (by rw [l1.code, List.length_append] at b2; exact b2), fun r h => b3 r (.inl h), ?_⟩
  rw [← Trm.addV_append] at b4
  exact b4
theorem lays_fixs : ∀ (l : List Trm), (∀ x ∈ l, LaysInto x ∧ ∀ y ∈ x.t, LaysInto y) → ∀ (v w : List Int) (nc nk : Int) (fr : Bool) (sc0 : Int → Bool) (d : Int) (e : Bool) (s : MSt) (G : Int → Prop), l.length = v.length + 1 → Trm.wfL nc nk fr 9 w l sc0 = true → (∀ x ∈ v, Trm.addV sc0 w x = true) → Env G d e s (Trm.addV sc0 w) → (∀ x, Trm.addV sc0 w x = true → x ∉ Trm.bndL l) → (Trm.bndL l).Nodup → (e = false → d < s.regs) →
  ∃ seg, Lays s (fixs lkL l v d e s) seg (Trm.bndL l) ∧ seg ≠ [] ∧ Piece e G d s.code.length seg
 | [], _, _, _, _, _, _, _, _, _, _, _, h, _, _, _, _, _, _ => by simp at h
 | [x], ih, v, w, nc, nk, fr, sc0, d, e, s, G, _, hw, _, hE, hB, hN, hd => by
  rw [Trm.wfL] at hw
  simp only [Trm.bndL, List.append_nil] at hB hN ⊢
  rw [fixs]
  exact (ih x (by simp)).1 nc nk fr _ d e s G hw hE hB hN hd
 | .mk o m u t :: y :: l, ih, [], w, nc, nk, fr, sc0, d, e, s, G, hl, _, _, _, _, _, _ => by simp at hl
 | .mk o m u t :: y :: l, ih, v :: vs, w, nc, nk, fr, sc0, d, e, s, G, hl, hw, hv, hE, hB, hN, hd => by
  rw [Trm.wfL, if_pos rfl, Bool.and_eq_true, Bool.and_eq_true, decide_eq_true_eq] at hw
  obtain ⟨⟨ho, hx⟩, hw2⟩ := hw
  obtain rfl : o = 19 := ho
  have hu := counts_novars (by decide) (by decide) (wf_parts hx).2.1
  obtain rfl : u = [] := List.eq_nil_of_length_eq_zero hu
  have hall := wfL_all (by decide) (wf_parts hx).2.2.2
  rw [Trm.bndL, Trm.bnd, List.nil_append] at hN hB
  have hN1 := List.nodup_append.1 hN
  obtain ⟨s1, a1, a2, a3, a4⟩ := lays_all t (fun z hz => (ih (.mk 19 m [] t) (by simp)).2 z hz) nc nk fr (Trm.addV sc0 w) d e s G hall hE (fun x hx h => hB x hx (List.mem_append_left _ h)) hN1.1 hd
  rw [fixs]
  obtain ⟨p, hp⟩ : ∃ p, allT lkL t s = p := ⟨_, rfl⟩
  rw [hp] at a1 a2 a3 a4 ⊢
  have hE1 := hE.or (fun q => q ∈ p.1) a1 (fun x hx h => hB x hx (List.mem_append_left _ h))
  have hf : Frag (fun r => G r ∨ r ∈ p.1) p.2.code.length [⟨8, 0, lkL p.2.vars v, 0, p.1⟩] (fun r => (G r ∨ r ∈ p.1) ∨ r = -1) := by
   refine .one _ _ ⟨8, 0, lkL p.2.vars v, 0, p.1⟩ (by simp) (fun r hr => ?_) (by simp)
   have hr : r = lkL p.2.vars v ∨ r ∈ p.1 := by simpa [named] using hr
   rcases hr with rfl | hr
   ·exact (hE1 v (hv v (by simp))).1
   ·exact .inr hr
  have l2 := Lays.put p.2 ⟨8, 0, lkL p.2.vars v, 0, p.1⟩ []
  have hE2 : Env (fun r => (G r ∨ r ∈ p.1) ∨ r = -1) d e (p.2.put ⟨8, 0, lkL p.2.vars v, 0, p.1⟩) (Trm.addV sc0 w) := hE1.step (fun _ h => .inl h) l2 (by simp)
  obtain ⟨s2, b1, b2, b3⟩ := lays_fixs (y :: l) (fun z hz => ih z (by simp [hz])) vs w nc nk fr sc0 d e (p.2.put ⟨8, 0, lkL p.2.vars v, 0, p.1⟩) _ (by simpa using hl) hw2 (fun x hx => hv x (by simp [hx])) hE2 (fun x hx h => hB x hx (List.mem_append_right _ h)) hN1.2.1 (fun he => Int.lt_of_lt_of_le (hd he) a1.regs)
  have hcat := Frag.cat a2 (by rw [a1.code, List.length_append] at hf; exact hf)
  refine ⟨(s1 ++ [⟨8, 0, lkL p.2.vars v, 0, p.1⟩]) ++ s2, ?_, by simp, Piece.after hcat (fun _ h => .inl (.inl h)) ?_ b3⟩
  ·rw [Trm.bndL, Trm.bnd, List.nil_append]
   have := (a1.trans l2).trans b1
   simpa using this
  ·simp [MSt.put, a1.code]
theorem setB_mid (s : MSt) (l r : List Ins) (x : Ins) (b : Int) (h : s.code = l ++ x :: r) : (s.setB l.length b).code = l ++ { x with b := b } :: r := by
 show s.code.modify l.length _ = _
 rw [h, modify_mid]
theorem setA_mid (s : MSt) (l r : List Ins) (x : Ins) (k : Nat) (hk : k = l.length) (a : Int) (h : s.code = l ++ x :: r) : (s.setA k a).code = l ++ { x with a := a } :: r := by
 subst hk
 show s.code.modify l.length _ = _
 rw [h, modify_mid]
theorem lays_thens {y z : Trm} (hy : LaysInto y) (hz : LaysInto z) {nc nk : Int} {fr : Bool} {sc : Int → Bool} {c d : Int} {e : Bool} {s : MSt} {G : Int → Prop} (wy : Trm.wf nc nk fr y sc = true) (wz : Trm.wf nc nk fr z sc = true) (hc : G c) (hE : Env G d e s sc) (hB : ∀ v, sc v = true → v ∉ y.bnd ∧ v ∉ z.bnd) (hNy : y.bnd.Nodup) (hNz : z.bnd.Nodup) (hd : e = false → d < s.regs) :
  ∃ seg, Lays s (thens (into lkL y) (into lkL z) c d e s) seg (y.bnd ++ z.bnd) ∧ seg ≠ [] ∧ Piece e G d s.code.length seg := by
 have l1 := Lays.put s ⟨16, 0, c, 0, []⟩ []
 obtain ⟨s1, hs1⟩ : ∃ s1, s.put ⟨16, 0, c, 0, []⟩ = s1 := ⟨_, rfl⟩
 rw [hs1] at l1
 have hE1 : Env G d e s1 sc := hE.step (fun _ h => h) l1 (by simp)
 have n1 : s1.code.length = s.code.length + 1 := by rw [l1.code]; simp
 obtain ⟨sy, y1, y2, y3⟩ := hy nc nk fr sc d e s1 G wy hE1 (fun v hv => (hB v hv).1) hNy (fun he => Int.lt_of_lt_of_le (hd he) l1.regs)
 obtain ⟨s2, hs2⟩ : ∃ s2, into lkL y d e s1 = s2 := ⟨_, rfl⟩
 rw [hs2] at y1
 have c2 : s2.code = s.code ++ ⟨16, 0, c, 0, []⟩ :: sy := by rw [y1.code, l1.code]; simp
 unfold thens
 dsimp only
 rw [hs1, hs2]
 cases e with
 | true =>
  simp only [if_true]
  obtain ⟨s4, hs4⟩ : ∃ s4, s2.setB s.code.length s2.len = s4 := ⟨_, rfl⟩
  have c4 : s4.code = s.code ++ ⟨16, 0, c, s2.len, []⟩ :: sy := by rw [← hs4]; exact setB_mid s2 s.code sy _ _ c2
  have v4 : s4.vars = s2.vars := by rw [← hs4]; rfl
  have r4 : s4.regs = s2.regs := by rw [← hs4]; rfl
  have hl2 : s2.len = (s.code.length + 1 + sy.length : Nat) := by simp [MSt.len, c2]; omega
  have hE4 : Env G d true s4 sc := fun v hv => by
   have := (hE1.step (G' := G) (fun _ h => h) y1 (fun v hv => (hB v hv).1)) v hv
   rw [v4, r4]; exact this
  obtain ⟨sz, z1, z2, z3⟩ := hz nc nk fr sc d true s4 G wz hE4 (fun v hv => (hB v hv).2) hNz (fun he => by cases he)
  have n4 : s4.code.length = s.code.length + 1 + sy.length := by rw [c4]; simp; omega
  rw [hs4]
  refine ⟨⟨16, 0, c, s2.len, []⟩ :: (sy ++ sz), ⟨by rw [z1.code, c4]; simp, ?_, fun x hx => ?_⟩, by simp, ?_⟩
  ·have h1 := z1.regs; have h2 := y1.regs; have h3 := l1.regs; rw [r4] at h1; omega
  ·simp only [List.mem_append, not_or] at hx
   rw [z1.vars x hx.2, v4, y1.vars x hx.1, l1.vars x (by simp)]
  ·rw [hl2]
   rw [n4] at z3
   rw [n1] at y3
   exact FragE.cond c hc y3 z3
 | false =>
  simp only [Bool.false_eq_true, if_false]
  obtain ⟨s3, hs3⟩ : ∃ s3, s2.put ⟨15, 0, 0, 0, []⟩ = s3 := ⟨_, rfl⟩
  have c3 : s3.code = s.code ++ ⟨16, 0, c, 0, []⟩ :: (sy ++ [⟨15, 0, 0, 0, []⟩]) := by rw [← hs3]; show s2.code ++ _ = _; rw [c2]; simp
  have v3 : s3.vars = s2.vars := by rw [← hs3]; rfl
  have r3 : s3.regs = s2.regs := by rw [← hs3]; rfl
  have hl3 : s3.len = (s.code.length + 1 + sy.length + 1 : Nat) := by simp [MSt.len, c3]; omega
  obtain ⟨s4, hs4⟩ : ∃ s4, s3.setB s.code.length s3.len = s4 := ⟨_, rfl⟩
  have c4 : s4.code = s.code ++ ⟨16, 0, c, s3.len, []⟩ :: (sy ++ [⟨15, 0, 0, 0, []⟩]) := by rw [← hs4]; exact setB_mid s3 s.code _ _ _ c3
  have v4 : s4.vars = s2.vars := by rw [← hs4]; exact v3
  have r4 : s4.regs = s2.regs := by rw [← hs4]; exact r3
  have hE4 : Env G d false s4 sc := fun v hv => by
   have := (hE1.step (G' := G) (fun _ h => h) y1 (fun v hv => (hB v hv).1)) v hv
   rw [v4, r4]; exact this
  obtain ⟨sz, z1, z2, z3⟩ := hz nc nk fr sc d false s4 G wz hE4 (fun v hv => (hB v hv).2) hNz (fun he => by
   have h1 := hd he; have h2 := y1.regs; have h3 := l1.regs; rw [r4]; omega)
  have n4 : s4.code.length = s.code.length + 1 + sy.length + 1 := by rw [c4]; simp; omega
  rw [hs3, hs4]
  obtain ⟨s5, hs5⟩ : ∃ s5, into lkL z d false s4 = s5 := ⟨_, rfl⟩
  rw [hs5] at z1 ⊢
  have c5 : s5.code = (s.code ++ ⟨16, 0, c, s3.len, []⟩ :: sy) ++ ⟨15, 0, 0, 0, []⟩ :: sz := by rw [z1.code, c4]; simp
  have hl5 : s5.len = (s.code.length + 1 + sy.length + 1 + sz.length : Nat) := by simp [MSt.len, c5]; omega
  have c6 := setA_mid s5 (s.code ++ ⟨16, 0, c, s3.len, []⟩ :: sy) sz _ s2.code.length (by rw [c2]; simp) s5.len c5
  refine ⟨⟨16, 0, c, s3.len, []⟩ :: (sy ++ ⟨15, 0, s5.len, 0, []⟩ :: sz), ⟨by rw [c6]; simp, ?_, fun x hx => ?_⟩, by simp, ?_⟩
  ·show s.regs ≤ s5.regs
   have h1 := z1.regs; have h2 := y1.regs; have h3 := l1.regs; rw [r4] at h1; omega
  ·simp only [List.mem_append, not_or] at hx
   show lkL s5.vars x = _
   rw [z1.vars x hx.2, v4, y1.vars x hx.1, l1.vars x (by simp)]
  ·rw [hl3, hl5]
   rw [n4] at z3
   rw [n1] at y3
   exact Frag.cond c hc y3 z3 z2
theorem lays_choice (l : List Trm) (ih : ∀ x ∈ l, LaysInto x) (hl : l.length = 3) (nc nk : Int) (fr : Bool) (sc : Int → Bool) (d : Int) (e : Bool) (s : MSt) (G : Int → Prop) (hw : ∀ x ∈ l, Trm.wf nc nk fr x sc = true) (hE : Env G d e s sc) (hB : ∀ v, sc v = true → v ∉ Trm.bndL l) (hN : (Trm.bndL l).Nodup) (hd : e = false → d < s.regs) :
  ∃ seg, Lays s (choice lkL l d e s) seg (Trm.bndL l) ∧ seg ≠ [] ∧ Piece e G d s.code.length seg := by
 match l, hl with
 | [x, y, z], _ =>
  simp only [Trm.bndL, List.append_nil] at hN hB ⊢
  have hN1 := List.nodup_append.1 hN
  have hN2 := List.nodup_append.1 hN1.2.1
  obtain ⟨s1, a1, a2, a3, a4⟩ := lays_had (ih x (by simp)) (hw x (by simp)) hE (fun v hv hx => hB v hv (List.mem_append_left _ hx)) hN1.1 hd
  rw [choice]
  obtain ⟨r, hr⟩ : ∃ r, hadW lkL x.op x.n (into lkL x) s = r := ⟨_, rfl⟩
  rw [hr] at a1 a2 a3 a4 ⊢
  have hE1 := hE.or (fun q => q = r.1) a1 (fun v hv hx => hB v hv (List.mem_append_left _ hx))
  obtain ⟨s2, b1, b2, b3⟩ := lays_thens (ih y (by simp)) (ih z (by simp)) (hw y (by simp)) (hw z (by simp)) (c := r.1) (.inr rfl) hE1 (fun v hv => ⟨fun hx => hB v hv (by simp [hx]), fun hx => hB v hv (by simp [hx])⟩) hN2.1 hN2.2.1 (fun he => Int.lt_of_lt_of_le (hd he) a1.regs)
  exact ⟨s1 ++ s2, a1.trans b1, by simp [b2], Piece.after a2 (fun _ h => .inl h) (by rw [a1.code, List.length_append]) b3⟩
theorem lays_into : ∀ (k : Nat) (x : Trm), x.all ≤ k → LaysInto x
 | 0, x, h => by have := x.all_pos; omega
 | k + 1, .mk op n v t, hk => by
  intro nc nk fr sc d e s G hw hE hB hN hd
  have hp := wf_parts hw
  have ih : ∀ x ∈ t, LaysInto x := fun x hx => lays_into k x (by have := Trm.all_mem (o := op) (n := n) (v := v) hx; omega)
  rw [into]
  rw [Trm.bnd] at hB hN ⊢
  have hN1 := List.nodup_append.1 hN
  by_cases h8 : op = 8
  ·subst h8
   rw [if_neg (by decide), if_neg (by decide), if_pos rfl]
   have hl : t.length = v.length + 1 := by simpa [Trm.countsB] using hp.2.1
   exact lays_lets t ih (by intro h; simp [h] at hl) v [] nc nk fr sc d e s G hp.2.2.2 (by simp; omega) (by simp) hE (fun w hw => ⟨fun h => hB w hw (by simp [h]), fun h => hB w hw (by simp [h])⟩) hN hd
  by_cases h9 : op = 9
  ·subst h9
   rw [if_neg (by decide), if_neg (by decide), if_neg (by decide), if_pos rfl]
   have hl : t.length = v.length + 1 := by simpa [Trm.countsB] using hp.2.1
   obtain ⟨s1, F, a1, a2, a3, a4⟩ := lays_fix1 v t hl sc d e s G hE (fun w hw h => hB w hw (by simp [h])) hN1.1 hd
   obtain ⟨s2, b1, b2, b3⟩ := lays_fixs t (fun x hx => ⟨ih x hx, fun y hy => lays_into k y (by
    have h1 := Trm.all_mem (o := 9) (n := n) (v := v) hx
    obtain ⟨o', n', v', t'⟩ := x
    have h2 := Trm.all_mem (o := o') (n := n') (v := v') (show y ∈ t' from hy)
    omega)⟩) v v nc nk fr sc d e _ F hl hp.2.2.2 (fun x hx => by simp [Trm.addV, hx]) a4 (fun x hx h => by
     by_cases hv : x ∈ v
     ·exact hN1.2.2 x hv x h rfl
     ·exact hB x (by simpa [Trm.addV, hv] using hx) (by simp [h])) hN1.2.1 (fun he => Int.lt_of_lt_of_le (hd he) a1.regs)
   exact ⟨s1 ++ s2, a1.trans b1, by simp [b2], Piece.after a2 a3 (by rw [a1.code, List.length_append]) b3⟩
  have hv0 := counts_novars h8 h9 hp.2.1
  obtain rfl : v = [] := List.eq_nil_of_length_eq_zero hv0
  have hall := wfL_all h9 hp.2.2.2
  simp only [List.nil_append] at hB hN ⊢
  by_cases h3 : op = 3
  ·subst h3
   rw [if_pos rfl]
   exact lays_choice t ih (by simpa [Trm.countsB] using hp.2.1) nc nk fr sc d e s G hall hE hB hN hd
  rw [if_neg h3]
  by_cases h6 : op = 6
  ·subst h6
   rw [if_pos rfl]
   have hl : 1 ≤ t.length := by simpa [Trm.countsB] using hp.2.1
   exact lays_seqs t ih (by intro h; simp [h] at hl) nc nk fr sc d e s G hall hE hB hN hd
  rw [if_neg h6, if_neg h8, if_neg h9]
  by_cases h1 : op = 1
  ·subst h1
   have hs : sc n = true := by simpa [Trm.numberB] using hp.2.2.1
   have he := hE n hs
   cases e with
   | true =>
    rw [if_pos rfl, if_neg (by simp [endsB]), if_pos rfl]
    exact ⟨[_], .put s _ _, by simp, .one G _ ⟨22, 0, lkL s.vars n, 0, []⟩ (by simp) (by simpa [named] using he.1)⟩
   | false =>
    rw [if_neg (by simp), if_pos rfl]
    exact ⟨[_], .put s _ _, by simp, .one G _ ⟨1, d, lkL s.vars n, 0, []⟩ (by simp) (by simpa [named] using he.1) (fun h => he.2.1 rfl h.2)⟩
  have hpl := plain_of hp.1 h1 h3 h6 h8 h9
  cases e with
  | true =>
   rw [if_pos rfl]
   by_cases hen : endsB op n = true
   ·rw [if_pos hen]
    obtain ⟨s1, a1, a2, a3, a4⟩ := lays_all t ih nc nk fr sc d true s G hall hE hB hN hd
    obtain ⟨s2, b1, b2, b3⟩ := lays_ended (fun r => G r ∨ r ∈ (allT lkL t s).1) op n (allT lkL t s).1 (allT lkL t s).2 hen (by rw [a3]; exact ends_counts hen hp.2.1) (fun r hr => .inr hr)
    exact ⟨s1 ++ s2, by simpa using a1.trans b1, by simp [b2], .cat a2 (by rw [a1.code, List.length_append] at b3; exact b3)⟩
   ·rw [if_neg hen, if_neg h1]
    obtain ⟨s1, a1, a2, a3, a4⟩ := lays_all t ih nc nk fr sc s.regs false s.fresh G hall hE.fresh hB hN (fun _ => by simp only [MSt.fresh]; omega)
    obtain ⟨s2, b1, b2, b3⟩ := lays_strict (fun r => G r ∨ r ∈ (allT lkL t s.fresh).1) op n s.regs (allT lkL t s.fresh).1 (allT lkL t s.fresh).2 t.length hpl hp.2.1 a3 (fun r hr => .inr hr)
    obtain ⟨sf, hsf⟩ : ∃ sf, strict op n s.regs (allT lkL t s.fresh).1 (allT lkL t s.fresh).2 = sf := ⟨_, rfl⟩
    rw [hsf] at b1 ⊢
    have lf := ((Lays.fresh s []).trans a1).trans (b1.trans (Lays.put sf ⟨22, 0, s.regs, 0, []⟩ []))
    have e1 : s.fresh.code.length = s.code.length := rfl
    refine ⟨s1 ++ (s2 ++ [⟨22, 0, s.regs, 0, []⟩]), by simpa using lf, by simp, .cat (E := fun r => G r ∨ r ∈ (allT lkL t s.fresh).1) (by rw [e1] at a2; exact a2) (.cat (by rw [a1.code, List.length_append, e1] at b3; exact b3) (.one _ _ _ (by simp) (by simp [named])))⟩
  | false =>
   rw [if_neg (by simp), if_neg h1]
   obtain ⟨s1, a1, a2, a3, a4⟩ := lays_all t ih nc nk fr sc d false s G hall hE hB hN hd
   obtain ⟨s2, b1, b2, b3⟩ := lays_strict (fun r => G r ∨ r ∈ (allT lkL t s).1) op n d (allT lkL t s).1 (allT lkL t s).2 t.length hpl hp.2.1 a3 (fun r hr => .inr hr)
   refine ⟨s1 ++ s2, by simpa using a1.trans b1, by simp [b2], ?_⟩
   refine .sub (.cat a2 (by rw [a1.code, List.length_append] at b3; exact b3)) fun r hr => ?_
   rcases hr with hr | hr
   ·exact .inl (.inl hr)
   ·exact .inr hr
end Mk
end
end Go.Proofs.YtigkhmppnnljiaaGreatDoor

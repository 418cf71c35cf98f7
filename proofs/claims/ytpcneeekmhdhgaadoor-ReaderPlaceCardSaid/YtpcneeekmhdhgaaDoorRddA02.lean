/-
  What the proofs lean on: Env, RdLaw, FewAll, Parses.
-/
import Derived.Lib.LaidTab
import Derived.Lib.AppendIntMem
import Derived.Lib.ItoaLen
import Derived.Below
import Derived.Lib.Hide
import Derived.WalkSpells
import Derived.Test.YtpcneeekmhdhgaaDoorRddA01
set_option maxRecDepth 100000
set_option maxHeartbeats 16000000
namespace Go.Proofs.YtpcneeekmhdhgaaDoor
section
open Go.RowKit
def Env (w : World) : Prop := Lib.TabIs Tryd.prog w "internal/strconv.uint64pow10" .u64 Lib.pow10Tab
theorem var_lt {w : World} {cs : Array Value} {n : String} {g : Nat} (hg : Tryd.prog.globalNamed n = some g) (h : w.var? Tryd.prog n = some cs) : g < w.heap.size := by
 unfold World.var? at h
 rw [hg] at h
 simp only [Option.bind_some] at h
 split at h
 ·rename_i he
  exact (Array.getElem?_eq_some_iff.1 he).1
 ·cases h
theorem Env.below {w w' : World} (h : Env w) (hb : Below w.heap.size w w') : Env w' := by
 have hg : Tryd.prog.globalNamed "internal/strconv.uint64pow10" = some 3 := by kernel_rfl
 have hlt := var_lt hg h
 unfold Env Lib.TabIs World.var? at h ⊢
 rw [hg] at h ⊢
 simp only [Option.bind_some] at h ⊢
 rw [hb.block _ hlt]
 exact h
theorem Env.drewN {w : World} (h : Env w) (k : Nat) : Env (w.drewN k) := h
theorem Below.next {w w1 w2 : World} (h : Below w.heap.size w w1) (h' : Below w1.heap.size w1 w2) : Below w.heap.size w w2 :=
 h.trans (h'.mono h.size)
theorem Below.drewN {w w1 : World} {B : Nat} (h : Below B w w1) (k : Nat) : Below B w (w1.drewN k) := ⟨h.os, h.tape, h.output, h.size, h.block⟩
theorem Below.self (w : World) : Below w.heap.size w w := Below.refl _ _
theorem Below.selfN (w : World) (k : Nat) : Below w.heap.size w (w.drewN k) := ⟨rfl, rfl, rfl, Nat.le_refl _, fun _ _ => rfl⟩
theorem Below.ofN {w w1 : World} {k : Nat} (h : Below (w.drewN k).heap.size (w.drewN k) w1) : Below w.heap.size w w1 := ⟨h.os, h.tape, h.output, h.size, h.block⟩
theorem str_app (a b : List UInt8) : ((⟨a.toArray⟩ : ByteArray) ++ (⟨b.toArray⟩ : ByteArray)) = ⟨(a ++ b).toArray⟩ := by
 apply ByteArray.ext
 rw [ByteArray.data_append]
 simp
theorem itoa_any (n : Int) (h0 : -9223372036854775808 ≤ n) (h1 : n ≤ 9223372036854775807) (w : World) (hE : Env w) :
  Calls Tryd.prog 42 #[.int .i64 n] w fun e w' => e = .returned (.string ⟨(Lib.itoa n).toArray⟩) ∧ Below w.heap.size w w' := by
 refine (Tryd.strconv_Itoa n h0 h1 w hE).mono ?_
 rintro e w' ⟨rfl, k, os, rfl⟩
 exact ⟨rfl, Lib.below_grow _ _ (Nat.le_refl _) _ _⟩
theorem trim_any (s cutset : ByteArray) (hs : s.size ≤ 9223372036854775807) (hcs : cutset.size < 4294967281) (ha : cutset.data.toList.all (fun b => decide (b.toNat < 128)) = true) (w : World) :
  Calls Tryd.prog 54 #[.string s, .string cutset] w fun e w' => e = .returned (.string ⟨(Lib.trimS s.data.toList cutset.data.toList).toArray⟩) ∧ Below w.heap.size w w' :=
 Any.strings_Trim_laid Tryd.lays160 (by kernel_rfl) s cutset w hs hcs (ascii_of_all ha)
theorem atoi_any (s : ByteArray) (n : Int) (hl : s.size ≤ 18) (h : Lib.atoi s.data.toList = some n) (w : World) :
  Calls Tryd.prog 62 #[.string s] w fun e w' => e = .returned (.tuple #[.int .i64 n, .nilIface]) ∧ Below w.heap.size w w' := by
 refine (Tryd.strconv_Atoi s n hl h w).mono ?_
 rintro e w' ⟨rfl, t, rfl⟩
 exact ⟨rfl, rfl, rfl, rfl, by rw [Lib.bytesWorld_size]; omega, fun k hk => Lib.bytesWorld_at_old _ _ _ _ hk⟩
end
section
namespace Rd
open Go Dat
theorem map_ok {α β : Type} {f : α → β} {x : Res α} {y : β} {q : List UInt8} (h : x.map f = .ok y q) : ∃ z, x = .ok z q ∧ f z = y := by
 cases x with
 | ok z r => simp only [Res.map, Res.ok.injEq] at h; exact ⟨z, by rw [h.2], h.1⟩
 | bad r => cases h
theorem map_bad {α β : Type} {f : α → β} {x : Res α} {q : List UInt8} (h : x.map f = .bad q) : x = .bad q := by
 cases x with
 | ok z r => cases h
 | bad r => simp only [Res.map, Res.bad.injEq] at h; rw [h]
theorem skip_app : ∀ (u : List UInt8) (m : Bool), (∃ b t, skip m u = b :: t ∧ ∀ v, skip m (u ++ v) = b :: (t ++ v)) ∨ (skip m u = [] ∧ ∃ m', ∀ v, skip m (u ++ v) = skip m' v)
 | [], m => .inr ⟨by cases m <;> rfl, m, fun v => rfl⟩
 | c :: u, true => by
  by_cases h : c = 10
  ·have e : ∀ v, skip true (c :: v) = skip false v := fun v => by simp [skip, h]
   simp only [List.cons_append, e]
   exact skip_app u false
  ·have e : ∀ v, skip true (c :: v) = skip true v := fun v => by simp [skip, h]
   simp only [List.cons_append, e]
   exact skip_app u true
 | c :: u, false => by
  by_cases h : c = 59
  ·have e : ∀ v, skip false (c :: v) = skip true v := fun v => by simp [skip, h]
   simp only [List.cons_append, e]
   exact skip_app u true
  by_cases h2 : c = 32 ∨ c = 10 ∨ c = 9
  ·have e : ∀ v, skip false (c :: v) = skip false v := fun v => by simp only [skip]; rw [if_neg h, if_pos h2]
   simp only [List.cons_append, e]
   exact skip_app u false
  ·have e : ∀ v, skip false (c :: v) = c :: v := fun v => by simp only [skip]; rw [if_neg h, if_neg h2]
   simp only [List.cons_append, e]
   exact .inl ⟨c, u, rfl, fun v => rfl⟩
theorem skip_self {m : Bool} {c : UInt8} {v : List UInt8} (h : skip m (c :: v) = c :: v) : m = false ∧ ∀ v', skip false (c :: v') = c :: v' := by
 have hl : ∀ m, (skip m v).length ≤ v.length := fun m => skip_le v m
 cases m with
 | true =>
  exfalso
  have := congrArg List.length h
  simp only [skip, List.length_cons] at this
  split at this
  ·have := hl false; omega
  ·have := hl true; omega
 | false =>
  refine ⟨rfl, fun v' => ?_⟩
  have := congrArg List.length h
  simp only [skip, List.length_cons] at this ⊢
  split at this
  ·have := hl true; omega
  split at this
  ·have := hl false; omega
  ·rename_i h1 h2
   rw [if_neg h1, if_neg h2]
theorem dw_cut {p : UInt8 → Bool} : ∀ {u v b : List UInt8}, (u ++ v).dropWhile p = b ++ v → u.dropWhile p = b ∧ (u ++ v).takeWhile p = u.takeWhile p
 | [], v, b, h => by
  have hl := (List.dropWhile_suffix p (l := v)).length_le
  rw [List.nil_append] at h
  have := congrArg List.length h
  simp only [List.length_append] at this
  have hb : b = [] := List.length_eq_zero_iff.1 (by omega)
  subst hb
  refine ⟨rfl, ?_⟩
  rw [List.nil_append] at h ⊢
  cases v with
  | nil => rfl
  | cons c v =>
   rw [List.takeWhile_cons]
   cases hc : p c with
   | false => rfl
   | true =>
    rw [List.dropWhile_cons_of_pos hc] at h
    have h2 := (List.dropWhile_suffix p (l := v)).length_le
    have := congrArg List.length h
    simp only [List.length_cons] at this
    omega
 | c :: u, v, b, h => by
  rw [List.cons_append] at h ⊢
  cases hc : p c with
  | false =>
   rw [List.dropWhile_cons_of_neg (by simp [hc])] at h ⊢
   rw [List.takeWhile_cons_of_neg (by simp [hc]), List.takeWhile_cons_of_neg (by simp [hc])]
   rw [← List.cons_append] at h
   exact ⟨List.append_cancel_right h, rfl⟩
  | true =>
   rw [List.dropWhile_cons_of_pos hc] at h ⊢
   rw [List.takeWhile_cons_of_pos hc, List.takeWhile_cons_of_pos hc]
   have := dw_cut h
   exact ⟨this.1, by rw [this.2]⟩
theorem tw_ext {p : UInt8 → Bool} {c : UInt8} (hc : p c = false) (v : List UInt8) : ∀ u : List UInt8, (u ++ c :: v).dropWhile p = u.dropWhile p ++ c :: v ∧ (u ++ c :: v).takeWhile p = u.takeWhile p
 | [] => by simp [hc]
 | b :: u => by
  have := tw_ext hc v u
  rw [List.cons_append, List.dropWhile_cons, List.dropWhile_cons, List.takeWhile_cons, List.takeWhile_cons]
  cases p b with
  | true => exact ⟨this.1, by simp [this.2]⟩
  | false => exact ⟨rfl, rfl⟩
def later (c : UInt8) : Prop := mark c = true ∨ c = 40 ∨ c = 35 ∨ c = 39
def Cut {α : Type} (F : List UInt8 → Res α) : Prop := ∀ u v x b, F (u ++ v) = .ok x (b ++ v) → F u = .ok x b
def CutB {α : Type} (F : List UInt8 → Res α) : Prop := ∀ u v, F (u ++ v) = .bad v → F u = .bad []
def Next {α : Type} (F : List UInt8 → Res α) : Prop := ∀ u c v, F (u ++ c :: v) = .bad (c :: v) → F (u ++ [c]) = .bad [c] ∨ later c
theorem len_cut {a v : List UInt8} {c : UInt8} (h : c :: (a ++ v) = v) : False := by
 have := congrArg List.length h
 simp only [List.length_cons, List.length_append] at this
 omega
theorem Good.ok_lt {α : Type} {r v b : List UInt8} {x : α} (h : Good r (.ok x (b ++ v))) (hr : r.length ≤ v.length) : False := by
 have := h.2
 simp only [List.length_append] at this
 omega
theorem word_cut (c : UInt8) {t v b : List UInt8} {x : Dat} (h : word (c :: (t ++ v)) = .ok x (b ++ v)) : word (c :: t) = .ok x b := by
 unfold word at h ⊢
 rw [← List.cons_append] at h
 have key : ((c :: t) ++ v).dropWhile mark = b ++ v → (c :: t).dropWhile mark = b ∧ ((c :: t) ++ v).takeWhile mark = (c :: t).takeWhile mark := dw_cut
 split at h
 ·rename_i hp
  simp only [Res.ok.injEq] at h
  obtain ⟨h1, h2⟩ := key h.2
  rw [h2] at hp h
  rw [if_pos hp, h1, h.1]
 ·rename_i hp
  split at h
  ·cases h
  ·rename_i hn
   simp only [Res.ok.injEq] at h
   obtain ⟨h1, h2⟩ := key h.2
   rw [h2] at hp h hn
   rw [if_neg hp, if_neg hn, h1, h.1]
theorem word_bad {r q : List UInt8} (h : word r = .bad q) : q = r := by
 unfold word at h
 split at h
 ·cases h
 split at h
 ·simp only [Res.bad.injEq] at h; exact h.symm
 ·cases h
theorem str_cut : Cut str := by
 intro t v x b h
 unfold str at h ⊢
 cases hd : (t ++ v).dropWhile strByte with
 | nil => rw [hd] at h; cases h
 | cons c r =>
  rw [hd] at h
  simp only at h
  split at h
  ·rename_i hc
   simp only [Res.ok.injEq] at h
   obtain ⟨h1, h2⟩ := dw_cut (p := strByte) (u := t) (v := v) (b := c :: b) (by rw [hd, h.2]; rfl)
   rw [h1, ← h2]
   simp only
   rw [if_pos hc, h.1]
  ·cases h
theorem str_cutB : CutB str := by
 intro t v h
 unfold str at h ⊢
 cases hd : (t ++ v).dropWhile strByte with
 | nil =>
  rw [hd] at h
  simp only [Res.bad.injEq] at h
  subst h
  rw [List.append_nil] at hd
  rw [hd]
 | cons c r =>
  rw [hd] at h
  simp only at h
  split at h
  ·cases h
  ·simp only [Res.bad.injEq] at h
   obtain ⟨h1, _⟩ := dw_cut (p := strByte) (u := t) (v := v) (b := []) (by rw [hd, h]; rfl)
   rw [h1]
theorem str_next (t : List UInt8) (c : UInt8) (v : List UInt8) (h : str (t ++ c :: v) = .bad (c :: v)) : str (t ++ [c]) = .bad [c] := by
 unfold str at h ⊢
 cases hd : (t ++ c :: v).dropWhile strByte with
 | nil => rw [hd] at h; simp at h
 | cons c' r =>
  rw [hd] at h
  simp only at h
  split at h
  ·cases h
  ·rename_i hc
   simp only [Res.bad.injEq, List.cons.injEq] at h
   obtain ⟨rfl, rfl⟩ := h
   have hs : strByte c' = false := by
    have := List.head?_dropWhile_not strByte (t ++ c' :: r)
    rw [hd] at this
    simpa using this
   obtain ⟨h1, _⟩ := tw_ext (p := strByte) hs [] t
   obtain ⟨h2, _⟩ := dw_cut (p := strByte) (u := t) (v := c' :: r) (b := []) (by rw [hd]; rfl)
   rw [h1, h2]
   simp only [List.nil_append]
   rw [if_neg hc]
section
variable {D : List UInt8 → Res Dat} {S : Bool → Bool → List UInt8 → Res (List Dat × Dat)}
theorem hashF_cut (hS : ∀ p a, Cut (S p a)) {v b : List UInt8} {x : Dat} (hg : ∀ p a t, Good t (S p a t)) : ∀ t : List UInt8, hashF S (t ++ v) = .ok x (b ++ v) → hashF S t = .ok x b
 | [], h => by
  have := hashF_good hg v
  rw [List.nil_append] at h
  rw [h] at this
  exact (this.ok_lt (Nat.le_refl _)).elim
 | c :: t, h => by
  simp only [hashF, List.cons_append] at h ⊢
  repeat' split at h
  all_goals first
   | (rename_i h1; rw [if_pos h1]; simp only [Res.ok.injEq, List.append_cancel_right_eq] at h ⊢; exact h)
   | skip
  ·rename_i h1 h2; rw [if_neg h1, if_pos h2]; simp only [Res.ok.injEq, List.append_cancel_right_eq] at h ⊢; exact h
  ·rename_i h1 h2 h3; rw [if_neg h1, if_neg h2, if_pos h3]; simp only [Res.ok.injEq, List.append_cancel_right_eq] at h ⊢; exact h
  ·rename_i h1 h2 h3 h4
   rw [if_neg h1, if_neg h2, if_neg h3, if_pos h4]
   obtain ⟨z, hz, rfl⟩ := map_ok h
   rw [hS _ _ _ _ _ _ hz]; rfl
  ·cases h
theorem headF_cut (hD : Cut D) (hS : ∀ p a, Cut (S p a)) (gS : ∀ p a t, Good t (S p a t)) (c : UInt8) {t v b : List UInt8} {x : Dat} (h : headF D S c (t ++ v) = .ok x (b ++ v)) : headF D S c t = .ok x b := by
 unfold headF at h ⊢
 by_cases h1 : mark c = true
 ·rw [if_pos h1] at h ⊢; exact word_cut c h
 rw [if_neg h1] at h ⊢
 by_cases h2 : c = 34
 ·rw [if_pos h2] at h ⊢; exact str_cut _ _ _ _ h
 rw [if_neg h2] at h ⊢
 by_cases h3 : c = 39
 ·rw [if_pos h3] at h ⊢
  obtain ⟨z, hz, rfl⟩ := map_ok h
  rw [hD _ _ _ _ hz]; rfl
 rw [if_neg h3] at h ⊢
 by_cases h4 : c = 35
 ·rw [if_pos h4] at h ⊢; exact hashF_cut hS gS t h
 rw [if_neg h4] at h ⊢
 by_cases h5 : c = 40
 ·rw [if_pos h5] at h ⊢
  obtain ⟨z, hz, rfl⟩ := map_ok h
  rw [hS _ _ _ _ _ _ hz]; rfl
 rw [if_neg h5] at h
 cases h
theorem datF_cut (hD : Cut D) (hS : ∀ p a, Cut (S p a)) (gD : ∀ t, Good t (D t)) (gS : ∀ p a t, Good t (S p a t)) : Cut (datF D S) := by
 intro u v x b h
 unfold datF at h ⊢
 rcases skip_app u false with ⟨c, t, h1, h2⟩ | ⟨_, m', h2⟩
 ·rw [h2] at h; rw [h1]
  exact headF_cut hD hS gS c h
 ·rw [h2] at h
  have hl := skip_le v m'
  split at h
  ·cases h
  ·rename_i c t he
   rw [he] at hl
   have := headF_good gD gS c t
   rw [h] at this
   exact (this.ok_lt hl).elim
theorem shutF_cut (x : Dat) : Cut (shutF x) := by
 intro u v y b h
 unfold shutF at h ⊢
 rcases skip_app u false with ⟨c, t, h1, h2⟩ | ⟨_, m', h2⟩
 ·rw [h2] at h; rw [h1]
  simp only at h ⊢
  split at h
  ·rename_i hc
   rw [if_pos hc]
   simp only [Res.ok.injEq, List.append_cancel_right_eq] at h ⊢; exact h
  ·cases h
 ·rw [h2] at h
  have hl := skip_le v m'
  split at h
  ·cases h
  ·rename_i c t he
   rw [he] at hl
   split at h
   ·simp only [Res.ok.injEq] at h
    have := h.2
    subst this
    simp only [List.length_cons, List.length_append] at hl
    omega
   ·cases h
theorem suf_split {b v q : List UInt8} (h : b ++ v <:+ q) : ∃ q', q = q' ++ v := by
 obtain ⟨a, ha⟩ := h
 exact ⟨a ++ b, by rw [← ha, List.append_assoc]⟩
theorem pointF_cut (hD : Cut D) : Cut (pointF D) := by
 intro u v x b h
 unfold pointF at h ⊢
 cases hd : D (u ++ v) with
 | bad q => rw [hd] at h; cases h
 | ok y q =>
  rw [hd] at h
  simp only at h
  have g := shutF_good y q
  rw [h] at g
  obtain ⟨q', rfl⟩ := suf_split g.1
  rw [hD _ _ _ _ hd]
  exact shutF_cut y _ _ _ _ h
theorem oneF_cut {S : List UInt8 → Res (List Dat × Dat)} (hD : Cut D) (hS : Cut S) (gS : ∀ t, Good t (S t)) : Cut (oneF D S) := by
 intro u v x b h
 unfold oneF at h ⊢
 cases hd : D (u ++ v) with
 | bad q => rw [hd] at h; cases h
 | ok y q =>
  rw [hd] at h
  simp only at h
  obtain ⟨z, hz, rfl⟩ := map_ok h
  have g := gS q
  rw [hz] at g
  obtain ⟨q', rfl⟩ := suf_split g.1
  rw [hD _ _ _ _ hd]
  simp only
  rw [hS _ _ _ _ hz]; rfl
theorem seqH_cut (hD : Cut D) (hS : ∀ p a, Cut (S p a)) (gS : ∀ p a t, Good t (S p a t)) (pair any : Bool) (c : UInt8) {t v b : List UInt8} {x : List Dat × Dat} (h : seqH D S pair any c (t ++ v) = .ok x (b ++ v)) : seqH D S pair any c t = .ok x b := by
 unfold seqH at h ⊢
 by_cases hc : c = 41
 ·rw [if_pos hc] at h ⊢
  simp only [Res.ok.injEq, List.append_cancel_right_eq] at h ⊢; exact h
 rw [if_neg hc] at h ⊢
 by_cases hc2 : c = 46 ∧ pair = true ∧ any = true
 ·rw [if_pos hc2] at h ⊢
  exact pointF_cut hD _ _ _ _ h
 rw [if_neg hc2] at h ⊢
 rw [← List.cons_append] at h
 exact oneF_cut hD (hS pair true) (gS pair true) _ _ _ _ h
theorem seqF_cut (hD : Cut D) (hS : ∀ p a, Cut (S p a)) (gD : ∀ t, Good t (D t)) (gS : ∀ p a t, Good t (S p a t)) (pair any : Bool) : Cut (seqF D S pair any) := by
 intro u v x b h
 unfold seqF at h ⊢
 rcases skip_app u false with ⟨c, t, h1, h2⟩ | ⟨_, m', h2⟩
 ·rw [h2] at h; rw [h1]
  exact seqH_cut hD hS gS pair any c h
 ·rw [h2] at h
  have hl := skip_le v m'
  split at h
  ·cases h
  ·rename_i c t he
   rw [he] at hl
   have := seqH_good gD gS pair any c t
   rw [h] at this
   exact (this.ok_lt hl).elim
theorem hashF_cutB (hS : ∀ p a, CutB (S p a)) {v : List UInt8} : ∀ t : List UInt8, hashF S (t ++ v) = .bad v → hashF S t = .bad []
 | [], _ => rfl
 | c :: t, h => by
  simp only [hashF, List.cons_append] at h ⊢
  by_cases h1 : c = 116
  ·rw [if_pos h1] at h; cases h
  rw [if_neg h1] at h ⊢
  by_cases h2 : c = 102
  ·rw [if_pos h2] at h; cases h
  rw [if_neg h2] at h ⊢
  by_cases h3 : c = 118
  ·rw [if_pos h3] at h; cases h
  rw [if_neg h3] at h ⊢
  by_cases h4 : c = 40
  ·rw [if_pos h4] at h ⊢
   rw [hS _ _ _ _ (map_bad h)]; rfl
  rw [if_neg h4] at h
  simp only [Res.bad.injEq] at h
  exact (len_cut h).elim
theorem headF_cutB (hD : CutB D) (hS : ∀ p a, CutB (S p a)) (c : UInt8) {t v : List UInt8} (h : headF D S c (t ++ v) = .bad v) : headF D S c t = .bad [] := by
 unfold headF at h ⊢
 by_cases h1 : mark c = true
 ·rw [if_pos h1] at h
  exact (len_cut (word_bad h).symm).elim
 rw [if_neg h1] at h ⊢
 by_cases h2 : c = 34
 ·rw [if_pos h2] at h ⊢; exact str_cutB _ _ h
 rw [if_neg h2] at h ⊢
 by_cases h3 : c = 39
 ·rw [if_pos h3] at h ⊢
  rw [hD _ _ (map_bad h)]; rfl
 rw [if_neg h3] at h ⊢
 by_cases h4 : c = 35
 ·rw [if_pos h4] at h ⊢; exact hashF_cutB hS t h
 rw [if_neg h4] at h ⊢
 by_cases h5 : c = 40
 ·rw [if_pos h5] at h ⊢
  rw [hS _ _ _ _ (map_bad h)]; rfl
 rw [if_neg h5] at h
 simp only [Res.bad.injEq] at h
 exact (len_cut h).elim
theorem datF_cutB (hD : CutB D) (hS : ∀ p a, CutB (S p a)) : CutB (datF D S) := by
 intro u v h
 unfold datF at h ⊢
 rcases skip_app u false with ⟨c, t, h1, h2⟩ | ⟨h1, m', h2⟩
 ·rw [h2] at h; rw [h1]
  exact headF_cutB hD hS c h
 ·rw [h1]
theorem shutF_cutB (x : Dat) : CutB (shutF x) := by
 intro u v h
 unfold shutF at h ⊢
 rcases skip_app u false with ⟨c, t, h1, h2⟩ | ⟨h1, m', h2⟩
 ·rw [h2] at h; rw [h1]
  simp only at h ⊢
  split at h
  ·cases h
  ·simp only [Res.bad.injEq] at h
   exact (len_cut h).elim
 ·rw [h1]
theorem pointF_cutB (hD : CutB D) (hC : Cut D) : CutB (pointF D) := by
 intro u v h
 unfold pointF at h ⊢
 cases hd : D (u ++ v) with
 | bad q =>
  rw [hd] at h
  simp only [Res.bad.injEq] at h
  subst h
  rw [hD _ _ hd]
 | ok y q =>
  rw [hd] at h
  simp only at h
  have g := shutF_good y q
  rw [h] at g
  obtain ⟨q', rfl⟩ := suf_split (b := []) g
  rw [hC _ _ _ _ hd]
  exact shutF_cutB y _ _ h
theorem oneF_cutB {S : List UInt8 → Res (List Dat × Dat)} (hD : CutB D) (hC : Cut D) (hS : CutB S) (gS : ∀ t, Good t (S t)) : CutB (oneF D S) := by
 intro u v h
 unfold oneF at h ⊢
 cases hd : D (u ++ v) with
 | bad q =>
  rw [hd] at h
  simp only [Res.bad.injEq] at h
  subst h
  rw [hD _ _ hd]
 | ok y q =>
  rw [hd] at h
  simp only at h
  have hz := map_bad h
  have g := gS q
  rw [hz] at g
  obtain ⟨q', rfl⟩ := suf_split (b := []) g
  rw [hC _ _ _ _ hd]
  simp only
  rw [hS _ _ hz]; rfl
theorem seqH_cutB (hD : CutB D) (hC : Cut D) (hS : ∀ p a, CutB (S p a)) (gS : ∀ p a t, Good t (S p a t)) (pair any : Bool) (c : UInt8) {t v : List UInt8} (h : seqH D S pair any c (t ++ v) = .bad v) : seqH D S pair any c t = .bad [] := by
 unfold seqH at h ⊢
 by_cases hc : c = 41
 ·rw [if_pos hc] at h; cases h
 rw [if_neg hc] at h ⊢
 by_cases hc2 : c = 46 ∧ pair = true ∧ any = true
 ·rw [if_pos hc2] at h ⊢
  exact pointF_cutB hD hC _ _ h
 rw [if_neg hc2] at h ⊢
 rw [← List.cons_append] at h
 exact oneF_cutB hD hC (hS pair true) (gS pair true) _ _ h
theorem seqF_cutB (hD : CutB D) (hC : Cut D) (hS : ∀ p a, CutB (S p a)) (gS : ∀ p a t, Good t (S p a t)) (pair any : Bool) : CutB (seqF D S pair any) := by
 intro u v h
 unfold seqF at h ⊢
 rcases skip_app u false with ⟨c, t, h1, h2⟩ | ⟨h1, m', h2⟩
 ·rw [h2] at h; rw [h1]
  exact seqH_cutB hD hC hS gS pair any c h
 ·rw [h1]
theorem hashF_next (hS : ∀ p a, Next (S p a)) {c : UInt8} {v : List UInt8} : ∀ t : List UInt8, hashF S (t ++ c :: v) = .bad (c :: v) → (∀ p a t, Good t (S p a t)) → hashF S (t ++ [c]) = .bad [c] ∨ later c
 | [], h, gS => by
  simp only [hashF, List.nil_append] at h ⊢
  by_cases h1 : c = 116
  ·rw [if_pos h1] at h; cases h
  rw [if_neg h1] at h ⊢
  by_cases h2 : c = 102
  ·rw [if_pos h2] at h; cases h
  rw [if_neg h2] at h ⊢
  by_cases h3 : c = 118
  ·rw [if_pos h3] at h; cases h
  rw [if_neg h3] at h ⊢
  by_cases h4 : c = 40
  ·exact .inr (.inr (.inl h4))
  rw [if_neg h4]
  exact .inl rfl
 | b :: t, h, _ => by
  simp only [hashF, List.cons_append] at h ⊢
  by_cases h1 : b = 116
  ·rw [if_pos h1] at h; cases h
  rw [if_neg h1] at h ⊢
  by_cases h2 : b = 102
  ·rw [if_pos h2] at h; cases h
  rw [if_neg h2] at h ⊢
  by_cases h3 : b = 118
  ·rw [if_pos h3] at h; cases h
  rw [if_neg h3] at h ⊢
  by_cases h4 : b = 40
  ·rw [if_pos h4] at h ⊢
   rcases hS _ _ _ _ _ (map_bad h) with h | h
   ·rw [h]; exact .inl rfl
   ·exact .inr h
  rw [if_neg h4] at h
  simp only [Res.bad.injEq] at h
  exact (len_cut h).elim
theorem headF_next (hD : Next D) (hS : ∀ p a, Next (S p a)) (gS : ∀ p a t, Good t (S p a t)) (b : UInt8) {c : UInt8} {t v : List UInt8} (h : headF D S b (t ++ c :: v) = .bad (c :: v)) : headF D S b (t ++ [c]) = .bad [c] ∨ later c := by
 unfold headF at h ⊢
 by_cases h1 : mark b = true
 ·rw [if_pos h1] at h
  exact (len_cut (word_bad h).symm).elim
 rw [if_neg h1] at h ⊢
 by_cases h2 : b = 34
 ·rw [if_pos h2] at h ⊢; exact .inl (str_next _ _ _ h)
 rw [if_neg h2] at h ⊢
 by_cases h3 : b = 39
 ·rw [if_pos h3] at h ⊢
  rcases hD _ _ _ (map_bad h) with h | h
  ·rw [h]; exact .inl rfl
  ·exact .inr h
 rw [if_neg h3] at h ⊢
 by_cases h4 : b = 35
 ·rw [if_pos h4] at h ⊢; exact hashF_next hS t h gS
 rw [if_neg h4] at h ⊢
 by_cases h5 : b = 40
 ·rw [if_pos h5] at h ⊢
  rcases hS _ _ _ _ _ (map_bad h) with h | h
  ·rw [h]; exact .inl rfl
  ·exact .inr h
 rw [if_neg h5] at h
 simp only [Res.bad.injEq] at h
 exact (len_cut h).elim
theorem headF_self (_gD : ∀ t, Good t (D t)) (_gS : ∀ p a t, Good t (S p a t)) {c : UInt8} {v : List UInt8} (h : headF D S c v = .bad (c :: v)) : headF D S c [] = .bad [c] ∨ later c := by
 have no : ∀ {α : Type} {x : Res α} {r : List UInt8}, Good r x → x = .bad (c :: v) → r.length ≤ v.length → False := fun hg he hl => by
  subst he
  have := List.IsSuffix.length_le hg
  simp only [List.length_cons] at this
  omega
 unfold headF at h ⊢
 by_cases h1 : mark c = true
 ·exact .inr (.inl h1)
 rw [if_neg h1] at h ⊢
 by_cases h2 : c = 34
 ·rw [if_pos h2] at h
  exact (no (str_good v) h (Nat.le_refl _)).elim
 rw [if_neg h2] at h ⊢
 by_cases h3 : c = 39
 ·exact .inr (.inr (.inr (.inr h3)))
 rw [if_neg h3] at h ⊢
 by_cases h4 : c = 35
 ·exact .inr (.inr (.inr (.inl h4)))
 rw [if_neg h4] at h ⊢
 by_cases h5 : c = 40
 ·exact .inr (.inr (.inl h5))
 rw [if_neg h5]
 exact .inl rfl
theorem skip_end {m : Bool} {c : UInt8} {v t : List UInt8} {b : UInt8} (he : skip m (c :: v) = b :: t) (hl : (c :: v).length ≤ (b :: t).length) : m = false ∧ b = c ∧ t = v ∧ skip false [c] = [c] := by
 have hs := skip_suf (c :: v) m
 rw [he] at hs
 have := List.IsSuffix.eq_of_length_le hs hl
 simp only [List.cons.injEq] at this
 obtain ⟨rfl, rfl⟩ := this
 have := skip_self he
 exact ⟨this.1, rfl, rfl, this.2 []⟩
theorem datF_next (hD : Next D) (hS : ∀ p a, Next (S p a)) (gD : ∀ t, Good t (D t)) (gS : ∀ p a t, Good t (S p a t)) : Next (datF D S) := by
 intro u c v h
 unfold datF at h ⊢
 rcases skip_app u false with ⟨b, t, h1, h2⟩ | ⟨h1, m', h2⟩
 ·rw [h2] at h ⊢
  exact headF_next hD hS gS b h
 ·rw [h2] at h ⊢
  split at h
  ·cases h
  ·rename_i b t he
   have g := headF_good gD gS b t
   rw [h] at g
   obtain ⟨rfl, rfl, rfl, h3⟩ := skip_end he g.length_le
   rw [h3]
   exact headF_self gD gS h
theorem shutF_next (x : Dat) : Next (shutF x) := by
 intro u c v h
 unfold shutF at h ⊢
 rcases skip_app u false with ⟨b, t, h1, h2⟩ | ⟨h1, m', h2⟩
 ·rw [h2] at h ⊢
  simp only at h ⊢
  split at h
  ·cases h
  ·simp only [Res.bad.injEq] at h
   exact (len_cut h).elim
 ·rw [h2] at h ⊢
  split at h
  ·cases h
  ·rename_i b t he
   split at h
   ·cases h
   ·rename_i hc
    simp only [Res.bad.injEq] at h
    obtain ⟨rfl, rfl, rfl, h3⟩ := skip_end he (by rw [h]; exact Nat.le_refl _)
    rw [h3]
    simp only
    rw [if_neg hc]
    exact .inl rfl
theorem snoc_split (u : List UInt8) (c : UInt8) (v : List UInt8) : u ++ c :: v = (u ++ [c]) ++ v := by simp
theorem pointF_next (hD : Next D) (hC : Cut D) : Next (pointF D) := by
 intro u c v h
 unfold pointF at h ⊢
 cases hd : D (u ++ c :: v) with
 | bad q =>
  rw [hd] at h
  simp only [Res.bad.injEq] at h
  subst h
  rcases hD _ _ _ hd with h | h
  ·rw [h]; exact .inl rfl
  ·exact .inr h
 | ok y q =>
  rw [hd] at h
  simp only at h
  have g := shutF_good y q
  rw [h] at g
  obtain ⟨q', rfl⟩ := suf_split (b := []) g
  rw [snoc_split, snoc_split q'] at hd
  rw [hC _ _ _ _ hd]
  exact shutF_next y _ _ _ h
theorem oneF_next {S : List UInt8 → Res (List Dat × Dat)} (hD : Next D) (hC : Cut D) (hS : Next S) (gS : ∀ t, Good t (S t)) : Next (oneF D S) := by
 intro u c v h
 unfold oneF at h ⊢
 cases hd : D (u ++ c :: v) with
 | bad q =>
  rw [hd] at h
  simp only [Res.bad.injEq] at h
  subst h
  rcases hD _ _ _ hd with h | h
  ·rw [h]; exact .inl rfl
  ·exact .inr h
 | ok y q =>
  rw [hd] at h
  simp only at h
  have hz := map_bad h
  have g := gS q
  rw [hz] at g
  obtain ⟨q', rfl⟩ := suf_split (b := []) g
  rw [snoc_split, snoc_split q'] at hd
  rw [hC _ _ _ _ hd]
  simp only
  rcases hS _ _ _ hz with h | h
  ·rw [h]; exact .inl rfl
  ·exact .inr h
theorem seqH_next (hD : Next D) (hC : Cut D) (hS : ∀ p a, Next (S p a)) (gS : ∀ p a t, Good t (S p a t)) (pair any : Bool) (b : UInt8) {c : UInt8} {t v : List UInt8} (h : seqH D S pair any b (t ++ c :: v) = .bad (c :: v)) : seqH D S pair any b (t ++ [c]) = .bad [c] ∨ later c := by
 unfold seqH at h ⊢
 by_cases hc : b = 41
 ·rw [if_pos hc] at h; cases h
 rw [if_neg hc] at h ⊢
 by_cases hc2 : b = 46 ∧ pair = true ∧ any = true
 ·rw [if_pos hc2] at h ⊢
  exact pointF_next hD hC _ _ _ h
 rw [if_neg hc2] at h ⊢
 rw [← List.cons_append] at h ⊢
 exact oneF_next hD hC (hS pair true) (gS pair true) _ _ _ h
theorem seqF_next (hD : Next D) (hC : Cut D) (hS : ∀ p a, Next (S p a)) (gD : ∀ t, Good t (D t)) (gS : ∀ p a t, Good t (S p a t)) (pair any : Bool) : Next (seqF D S pair any) := by
 intro u c v h
 unfold seqF at h ⊢
 rcases skip_app u false with ⟨b, t, h1, h2⟩ | ⟨h1, m', h2⟩
 ·rw [h2] at h ⊢
  exact seqH_next hD hC hS gS pair any b h
 ·rw [h2] at h ⊢
  split at h
  ·cases h
  ·rename_i b t he
   have g := seqH_good gD gS pair any b t
   rw [h] at g
   obtain ⟨rfl, rfl, rfl, h3⟩ := skip_end he g.length_le
   rw [h3]
   simp only
   -- it is none at its first byte: no bracket, no point, no datum begins so
   unfold seqH at h ⊢
   by_cases hc : b = 41
   ·rw [if_pos hc] at h; cases h
   rw [if_neg hc] at h ⊢
   by_cases hc2 : b = 46 ∧ pair = true ∧ any = true
   ·rw [if_pos hc2] at h
    have g2 := pointF_good gD t
    rw [h] at g2
    have := List.IsSuffix.length_le g2
    simp only [List.length_cons] at this
    omega
   rw [if_neg hc2] at h ⊢
   exact oneF_next hD hC (hS pair true) (gS pair true) [] b t h
end
theorem both_cut : ∀ f, Cut (both f).1 ∧ ∀ p a, Cut ((both f).2 p a)
 | 0 => ⟨fun _ _ _ _ h => (by cases h), fun _ _ _ _ _ _ h => (by cases h)⟩
 | f + 1 => ⟨datF_cut (both_cut f).1 (both_cut f).2 (both_good f).1 (both_good f).2, seqF_cut (both_cut f).1 (both_cut f).2 (both_good f).1 (both_good f).2⟩
theorem app_self {u v : List UInt8} (h : u ++ v = v) : u = [] := by
 have := congrArg List.length h
 simp only [List.length_append] at this
 exact List.length_eq_zero_iff.1 (by omega)
theorem both_cutB : ∀ f, CutB (both f).1 ∧ ∀ p a, CutB ((both f).2 p a)
 | 0 => ⟨fun u v h => by simp only [both, Res.bad.injEq] at h; rw [app_self h]; rfl, fun _ _ u v h => by simp only [both, Res.bad.injEq] at h; rw [app_self h]; rfl⟩
 | f + 1 => ⟨datF_cutB (both_cutB f).1 (both_cutB f).2, seqF_cutB (both_cutB f).1 (both_cut f).1 (both_cutB f).2 (both_good f).2⟩
theorem both_next : ∀ f, Next (both f).1 ∧ ∀ p a, Next ((both f).2 p a)
 | 0 => ⟨fun u c v h => by simp only [both, Res.bad.injEq] at h; rw [app_self h]; exact .inl rfl, fun _ _ u c v h => by simp only [both, Res.bad.injEq] at h; rw [app_self h]; exact .inl rfl⟩
 | f + 1 => ⟨datF_next (both_next f).1 (both_next f).2 (both_good f).1 (both_good f).2, seqF_next (both_next f).1 (both_cut f).1 (both_next f).2 (both_good f).1 (both_good f).2⟩
theorem D_cut : Cut D := fun u v x b h => by
 have := (both_cut (2 * (u ++ v).length + 1)).1 u v x b h
 rwa [both_D (by rw [List.length_append]; omega)] at this
theorem D_cutB : CutB D := fun u v h => by
 have := (both_cutB (2 * (u ++ v).length + 1)).1 u v h
 rwa [both_D (by rw [List.length_append]; omega)] at this
theorem D_next : Next D := fun u c v h => by
 have := (both_next (2 * (u ++ c :: v).length + 1)).1 u c v h
 rwa [both_D (by simp only [List.length_append, List.length_cons, List.length_nil]; omega)] at this
theorem D_opens {c : UInt8} {v : List UInt8} {x : Dat} {q : List UInt8} (hs : skip false (c :: v) = c :: v) (h : D (c :: v) = .ok x q) : later c ∨ right x 0 = true := by
 rw [D_eq] at h
 unfold datF at h
 rw [hs] at h
 simp only at h
 unfold headF at h
 by_cases h1 : mark c = true
 ·exact .inl (.inl h1)
 rw [if_neg h1] at h
 by_cases h2 : c = 34
 ·rw [if_pos h2] at h
  unfold str at h
  split at h
  ·cases h
  ·split at h
   ·right
    simp only [Res.ok.injEq] at h
    obtain ⟨rfl, _⟩ := h
    have : (v.takeWhile strByte).all strByte = true := List.all_takeWhile
    simp [right, head, rightL, this]
   ·cases h
 rw [if_neg h2] at h
 by_cases h3 : c = 39
 ·exact .inl (.inr (.inr (.inr h3)))
 rw [if_neg h3] at h
 by_cases h4 : c = 35
 ·exact .inl (.inr (.inr (.inl h4)))
 rw [if_neg h4] at h
 by_cases h5 : c = 40
 ·exact .inl (.inr (.inl h5))
 rw [if_neg h5] at h
 cases h
theorem A_nil {r : List UInt8} (h : skip false r = []) : A r = .ok [] [] := by rw [A_eq]; unfold allG; rw [h]
theorem A_cons {r t : List UInt8} {b : UInt8} (h : skip false r = b :: t) : A r = match D (b :: t) with
  | .bad q => .bad q
  | .ok x q => if right x 0 = true then (A q).map (x :: ·) else .bad (b :: t) := by rw [A_eq]; unfold allG; rw [h] <;> rfl
theorem A_cut : ∀ n (u v : List UInt8), u.length < n → A (u ++ v) = .bad v → (∃ l, A u = .ok l []) ∨ A u = .bad []
 | 0, _, _, hn, _ => by omega
 | n + 1, u, v, hn, h => by
  rcases skip_app u false with ⟨b, t, h1, h2⟩ | ⟨h1, m', h2⟩
  ·have hl := skip_le u false
   rw [h1] at hl
   rw [A_cons (h2 v)] at h
   rw [A_cons h1]
   rw [← List.cons_append] at h
   cases hd : D ((b :: t) ++ v) with
   | bad q =>
    rw [hd] at h
    simp only [Res.bad.injEq] at h
    subst h
    rw [D_cutB _ _ hd]
    exact .inr rfl
   | ok x q =>
    rw [hd] at h
    simp only at h
    split at h
    ·rename_i hr
     have hz := map_bad h
     have g := A_good q
     rw [hz] at g
     obtain ⟨q', rfl⟩ := suf_split (b := []) g
     have hc := D_cut _ _ _ _ hd
     have g2 := D_good (b :: t)
     rw [hc] at g2 ⊢
     simp only
     rw [if_pos hr]
     rcases A_cut n q' v (by have := g2.2; omega) hz with ⟨l, h⟩ | h
     ·rw [h]; exact .inl ⟨_, rfl⟩
     ·rw [h]; exact .inr rfl
    ·simp only [Res.bad.injEq] at h
     exact (len_cut h).elim
  ·exact .inl ⟨[], A_nil h1⟩
theorem A_next : ∀ n (u : List UInt8) (c : UInt8) (v : List UInt8), u.length < n → A (u ++ c :: v) = .bad (c :: v) → A (u ++ [c]) = .bad [c] ∨ later c
 | 0, _, _, _, hn, _ => by omega
 | n + 1, u, c, v, hn, h => by
  rcases skip_app u false with ⟨b, t, h1, h2⟩ | ⟨h1, m', h2⟩
  ·have hl := skip_le u false
   rw [h1] at hl
   rw [A_cons (h2 _)] at h ⊢
   rw [← List.cons_append] at h ⊢
   cases hd : D ((b :: t) ++ c :: v) with
   | bad q =>
    rw [hd] at h
    simp only [Res.bad.injEq] at h
    subst h
    rcases D_next _ _ _ hd with h | h
    ·rw [h]; exact .inl rfl
    ·exact .inr h
   | ok x q =>
    rw [hd] at h
    simp only at h
    split at h
    ·rename_i hr
     have hz := map_bad h
     have g := A_good q
     rw [hz] at g
     obtain ⟨q', rfl⟩ := suf_split (b := []) g
     have hc := D_cut (b :: t) _ _ _ hd
     have g2 := D_good (b :: t)
     rw [hc] at g2
     rw [snoc_split, snoc_split q'] at hd
     rw [D_cut _ _ _ _ hd]
     simp only
     rw [if_pos hr]
     rcases A_next n q' c v (by have := g2.2; omega) hz with h | h
     ·rw [h]; exact .inl rfl
     ·exact .inr h
    ·simp only [Res.bad.injEq] at h
     exact (len_cut h).elim
  ·rw [A_eq] at h ⊢
   unfold allG at h ⊢
   rw [h2] at h ⊢
   split at h
   ·cases h
   ·rename_i b t he
    have gl : ∀ {q : List UInt8}, c :: v <:+ q → q.length ≤ (b :: t).length → (c :: v).length ≤ (b :: t).length := fun h1 h2 => Nat.le_trans h1.length_le h2
    have g := D_good (b :: t)
    cases hd : D (b :: t) with
    | bad q =>
     rw [hd] at h g
     simp only [Res.bad.injEq] at h
     subst h
     obtain ⟨rfl, rfl, rfl, h3⟩ := skip_end he (List.IsSuffix.length_le g)
     rw [h3]
     simp only
     rcases D_next [] _ _ hd with h | h
     ·rw [List.nil_append] at h; rw [h]; exact .inl rfl
     ·exact .inr h
    | ok x q =>
     rw [hd] at h g
     simp only at h
     have hsl := skip_le (c :: v) m'
     rw [he] at hsl
     split at h
     ·have g3 := A_good q
      rw [map_bad h] at g3
      have := List.IsSuffix.length_le g3
      have := g.2
      omega
     ·rename_i hr
      simp only [Res.bad.injEq] at h
      obtain ⟨rfl, rfl, rfl, h3⟩ := skip_end he (by rw [h]; exact Nat.le_refl _)
      rcases D_opens ((skip_self he).2 _) hd with h | h
      ·exact .inr h
      ·exact (hr h).elim
end Rd
end
section
open Go.RowKit
mutual
def RepD (w : World) (B : Nat) : Dat → Value → Prop
 | .mk k n d s l, v => ∃ o len cap, v = .agg #[.int .i64 k, .int .i64 n, .int .i64 d, .string s, .slice o len cap] ∧
   (-9223372036854775808 ≤ k ∧ k ≤ 9223372036854775807) ∧ (-9223372036854775808 ≤ n ∧ n ≤ 9223372036854775807) ∧ (-9223372036854775808 ≤ d ∧ d ≤ 9223372036854775807) ∧ s.size ≤ 140737488351232 ∧
   len = l.length ∧ len ≤ cap ∧ cap ≤ 9223372036854775807 ∧ (match o with | none => l = [] ∧ cap = 0 | some a => (l ≠ [] → a.spot = none ∧ a.block < B) ∧ RepC w B l a.block a.off)
def RepC (w : World) (B : Nat) : List Dat → Nat → Nat → Prop
 | [], _, _ => True
 | x :: l, b, off => (∃ c0 c1 c2 c3 c4, w.cell? ⟨b, off, none⟩ = some c0 ∧ w.cell? ⟨b, off + 1, none⟩ = some c1 ∧ w.cell? ⟨b, off + 2, none⟩ = some c2 ∧ w.cell? ⟨b, off + 3, none⟩ = some c3 ∧ w.cell? ⟨b, off + 4, none⟩ = some c4 ∧ RepD w B x (.agg #[c0, c1, c2, c3, c4])) ∧ RepC w B l b (off + 5)
end
def RepS (w : World) (B : Nat) (l : List Dat) (v : Value) : Prop :=
 ∃ o len cap, v = .slice o len cap ∧ len = l.length ∧ len ≤ cap ∧ cap ≤ 9223372036854775807 ∧ (match o with | none => l = [] ∧ cap = 0 | some a => (l ≠ [] → a.spot = none ∧ a.block < B) ∧ RepC w B l a.block a.off)
theorem RepD.open {w : World} {B : Nat} {k n d : Int} {s : ByteArray} {l : List Dat} {v : Value} (h : RepD w B (.mk k n d s l) v) :
  ∃ sl, v = .agg #[.int .i64 k, .int .i64 n, .int .i64 d, .string s, sl] ∧ (-9223372036854775808 ≤ k ∧ k ≤ 9223372036854775807) ∧ (-9223372036854775808 ≤ n ∧ n ≤ 9223372036854775807) ∧ (-9223372036854775808 ≤ d ∧ d ≤ 9223372036854775807) ∧ s.size ≤ 140737488351232 ∧ RepS w B l sl := by
 rw [RepD] at h
 obtain ⟨o, len, cap, rfl, h1, h2, h3, h4, h5⟩ := h
 exact ⟨_, rfl, h1, h2, h3, h4, o, len, cap, rfl, h5⟩
theorem RepD.shut {w : World} {B : Nat} {k n d : Int} {s : ByteArray} {l : List Dat} {sl : Value} (h1 : -9223372036854775808 ≤ k ∧ k ≤ 9223372036854775807) (h2 : -9223372036854775808 ≤ n ∧ n ≤ 9223372036854775807) (h3 : -9223372036854775808 ≤ d ∧ d ≤ 9223372036854775807) (h4 : s.size ≤ 140737488351232) (h : RepS w B l sl) :
  RepD w B (.mk k n d s l) (.agg #[.int .i64 k, .int .i64 n, .int .i64 d, .string s, sl]) := by
 obtain ⟨o, len, cap, rfl, h5⟩ := h
 rw [RepD]
 exact ⟨o, len, cap, rfl, h1, h2, h3, h4, h5⟩
theorem RepC.at {w : World} {B b : Nat} : ∀ {l : List Dat} {off : Nat}, RepC w B l b off → ∀ (i : Nat) (x : Dat), l[i]? = some x →
  ∃ c0 c1 c2 c3 c4, w.cell? ⟨b, off + i * 5, none⟩ = some c0 ∧ w.cell? ⟨b, off + i * 5 + 1, none⟩ = some c1 ∧ w.cell? ⟨b, off + i * 5 + 2, none⟩ = some c2 ∧ w.cell? ⟨b, off + i * 5 + 3, none⟩ = some c3 ∧ w.cell? ⟨b, off + i * 5 + 4, none⟩ = some c4 ∧ RepD w B x (.agg #[c0, c1, c2, c3, c4])
 | [], _, _, i, x, hx => by simp at hx
 | y :: l, off, h, i, x, hx => by
  rw [RepC] at h
  cases i with
  | zero =>
   simp only [List.getElem?_cons_zero, Option.some.injEq] at hx
   subst hx
   simpa using h.1
  | succ i =>
   have := RepC.at h.2 i x (by simpa using hx)
   have e : off + (i + 1) * 5 = off + 5 + i * 5 := by omega
   rw [e]; exact this
theorem rep_kept {w w' : World} {B : Nat} (hk : ∀ b o, b < B → w'.cell? ⟨b, o, none⟩ = w.cell? ⟨b, o, none⟩) :
  (∀ x v, RepD w B x v → RepD w' B x v) ∧ (∀ l b off, b < B → RepC w B l b off → RepC w' B l b off) := by
 have both : (∀ x : Dat, ∀ v, RepD w B x v → RepD w' B x v) := by
  intro x
  refine Dat.rec (motive_1 := fun x => ∀ v, RepD w B x v → RepD w' B x v) (motive_2 := fun l => ∀ b off, b < B → RepC w B l b off → RepC w' B l b off) ?_ ?_ ?_ x
  ·intro k n d s l ih v h
   rw [RepD] at h ⊢
   obtain ⟨o, len, cap, rfl, h1, h2, h3, h4, h5, h6, h7, h8⟩ := h
   refine ⟨o, len, cap, rfl, h1, h2, h3, h4, h5, h6, h7, ?_⟩
   cases o with
   | none => exact h8
   | some a =>
    refine ⟨h8.1, ?_⟩
    by_cases hl : l = []
    ·subst hl; rw [RepC]; trivial
    ·exact ih _ _ (h8.1 hl).2 h8.2
  ·intro b off _ _; rw [RepC]; trivial
  ·intro x l ihx ihl b off hb h
   rw [RepC] at h ⊢
   obtain ⟨⟨c0, c1, c2, c3, c4, h0, h1, h2, h3, h4, h5⟩, h6⟩ := h
   exact ⟨⟨c0, c1, c2, c3, c4, by rw [hk _ _ hb]; exact h0, by rw [hk _ _ hb]; exact h1, by rw [hk _ _ hb]; exact h2, by rw [hk _ _ hb]; exact h3, by rw [hk _ _ hb]; exact h4, ihx _ h5⟩, ihl _ _ hb h6⟩
 refine ⟨both, ?_⟩
 intro l
 induction l with
 | nil => intro b off _ _; rw [RepC]; trivial
 | cons x l ih =>
  intro b off hb h
  rw [RepC] at h ⊢
  obtain ⟨⟨c0, c1, c2, c3, c4, h0, h1, h2, h3, h4, h5⟩, h6⟩ := h
  exact ⟨⟨c0, c1, c2, c3, c4, by rw [hk _ _ hb]; exact h0, by rw [hk _ _ hb]; exact h1, by rw [hk _ _ hb]; exact h2, by rw [hk _ _ hb]; exact h3, by rw [hk _ _ hb]; exact h4, both _ _ h5⟩, ih _ _ hb h6⟩
theorem below_cells {B : Nat} {w w' : World} (h : Below B w w') : ∀ b o, b < B → w'.cell? ⟨b, o, none⟩ = w.cell? ⟨b, o, none⟩ :=
 fun b o hb => h.cell (p := ⟨b, o, none⟩) hb
theorem RepD.kept {w w' : World} {B : Nat} {x : Dat} {v : Value} (h : RepD w B x v) (hb : Below B w w') : RepD w' B x v := (rep_kept (below_cells hb)).1 x v h
theorem RepC.kept {w w' : World} {B : Nat} {l : List Dat} {b off : Nat} (h : RepC w B l b off) (hB : b < B) (hb : Below B w w') : RepC w' B l b off := (rep_kept (below_cells hb)).2 l b off hB h
theorem RepS.kept {w w' : World} {B : Nat} {l : List Dat} {v : Value} (h : RepS w B l v) (hb : Below B w w') : RepS w' B l v := by
 obtain ⟨o, len, cap, rfl, h1, h2, h3, h4⟩ := h
 refine ⟨o, len, cap, rfl, h1, h2, h3, ?_⟩
 cases o with
 | none => exact h4
 | some a =>
  refine ⟨h4.1, ?_⟩
  by_cases hl : l = []
  ·subst hl; rw [RepC]; trivial
  ·exact h4.2.kept (h4.1 hl).2 hb
theorem rep_wider {w : World} {B B' : Nat} (hB : B ≤ B') : (∀ x v, RepD w B x v → RepD w B' x v) ∧ (∀ l b off, RepC w B l b off → RepC w B' l b off) := by
 have both : (∀ x : Dat, ∀ v, RepD w B x v → RepD w B' x v) := by
  intro x
  refine Dat.rec (motive_1 := fun x => ∀ v, RepD w B x v → RepD w B' x v) (motive_2 := fun l => ∀ b off, RepC w B l b off → RepC w B' l b off) ?_ ?_ ?_ x
  ·intro k n d s l ih v h
   rw [RepD] at h ⊢
   obtain ⟨o, len, cap, rfl, h1, h2, h3, h4, h5, h6, h7, h8⟩ := h
   refine ⟨o, len, cap, rfl, h1, h2, h3, h4, h5, h6, h7, ?_⟩
   cases o with
   | none => exact h8
   | some a => exact ⟨fun hl => ⟨(h8.1 hl).1, Nat.lt_of_lt_of_le (h8.1 hl).2 hB⟩, ih _ _ h8.2⟩
  ·intro b off _; rw [RepC]; trivial
  ·intro x l ihx ihl b off h
   rw [RepC] at h ⊢
   obtain ⟨⟨c0, c1, c2, c3, c4, h0, h1, h2, h3, h4, h5⟩, h6⟩ := h
   exact ⟨⟨c0, c1, c2, c3, c4, h0, h1, h2, h3, h4, ihx _ h5⟩, ihl _ _ h6⟩
 refine ⟨both, ?_⟩
 intro l
 induction l with
 | nil => intro b off _; rw [RepC]; trivial
 | cons x l ih =>
  intro b off h
  rw [RepC] at h ⊢
  obtain ⟨⟨c0, c1, c2, c3, c4, h0, h1, h2, h3, h4, h5⟩, h6⟩ := h
  exact ⟨⟨c0, c1, c2, c3, c4, h0, h1, h2, h3, h4, both _ _ h5⟩, ih _ _ h6⟩
theorem RepD.wider {w : World} {B B' : Nat} {x : Dat} {v : Value} (h : RepD w B x v) (hB : B ≤ B') : RepD w B' x v := (rep_wider hB).1 x v h
theorem RepS.wider {w : World} {B B' : Nat} {l : List Dat} {v : Value} (h : RepS w B l v) (hB : B ≤ B') : RepS w B' l v := by
 obtain ⟨o, len, cap, rfl, h1, h2, h3, h4⟩ := h
 refine ⟨o, len, cap, rfl, h1, h2, h3, ?_⟩
 cases o with
 | none => exact h4
 | some a => exact ⟨fun hl => ⟨(h4.1 hl).1, Nat.lt_of_lt_of_le (h4.1 hl).2 hB⟩, (rep_wider hB).2 _ _ _ h4.2⟩
end
section
open Go.RowKit
theorem box_cell (w : World) (cs : Array Value) (t : TypeId) (i : Nat) {v : Value} (h : cs[i]? = some v) : (w.alloc (.cells cs t)).cell? ⟨w.heap.size, i, none⟩ = some v := by
 have hn : (w.alloc (.cells cs t)).heap[w.heap.size]? = some (.cells cs t) := (MapKept.heap_alloc w _).1
 show (match (w.alloc (.cells cs t)).heap[w.heap.size]? with | some (.cells c _ _) => _ | _ => _) = _
 rw [hn]
 simpa using h
theorem part_at {w wr : World} {B : Nat} {l : List Dat} {o : Option Addr} {cap j : Nat} {x : Dat} (h : match o with | none => l = [] ∧ cap = 0 | some a => (l ≠ [] → a.spot = none ∧ a.block < B) ∧ RepC w B l a.block a.off)
  (hb : Below B w wr) (hx : l[j]? = some x) :
  ∃ b off, o = some ⟨b, off, none⟩ ∧ ∃ c0 c1 c2 c3 c4, wr.cell? ⟨b, off + j * 5, none⟩ = some c0 ∧ wr.cell? ⟨b, off + j * 5 + 1, none⟩ = some c1 ∧ wr.cell? ⟨b, off + j * 5 + 2, none⟩ = some c2 ∧ wr.cell? ⟨b, off + j * 5 + 3, none⟩ = some c3 ∧ wr.cell? ⟨b, off + j * 5 + 4, none⟩ = some c4 ∧ RepD wr B x (.agg #[c0, c1, c2, c3, c4]) := by
 cases o with
 | none => rw [h.1] at hx; simp at hx
 | some a =>
  have hl : l ≠ [] := by rintro rfl; simp at hx
  obtain ⟨b, off, sp⟩ := a
  obtain ⟨hs, hlt⟩ := h.1 hl
  simp only at hs hlt
  subst hs
  exact ⟨b, off, rfl, (h.2.kept hlt hb).at j x hx⟩
theorem part_at2 {w wr : World} {B : Nat} {l : List Dat} {o : Option Addr} {cap j : Nat} {x : Dat} (h : match o with | none => l = [] ∧ cap = 0 | some a => (l ≠ [] → a.spot = none ∧ a.block < B) ∧ RepC w B l a.block a.off)
  (hb : Below B w wr) (hx : l[j]? = some x) :
  ∃ b off k n d s l' o' len' cap', o = some ⟨b, off, none⟩ ∧ x = .mk k n d s l' ∧ wr.cell? ⟨b, off + j * 5, none⟩ = some (.int .i64 k) ∧ wr.cell? ⟨b, off + j * 5 + 1, none⟩ = some (.int .i64 n) ∧ wr.cell? ⟨b, off + j * 5 + 2, none⟩ = some (.int .i64 d) ∧
   wr.cell? ⟨b, off + j * 5 + 3, none⟩ = some (.string s) ∧ wr.cell? ⟨b, off + j * 5 + 4, none⟩ = some (.slice o' len' cap') ∧ RepD wr B (.mk k n d s l') (.agg #[.int .i64 k, .int .i64 n, .int .i64 d, .string s, .slice o' len' cap']) := by
 obtain ⟨b, off, ho, c0, c1, c2, c3, c4, e0, e1, e2, e3, e4, er⟩ := part_at h hb hx
 obtain ⟨k, n, d, s, l'⟩ := x
 obtain ⟨sl, hv, _, _, _, _, o', len', cap', hsl, _⟩ := er.open
 subst hsl
 simp only [Value.agg.injEq, Array.mk.injEq, List.cons.injEq, and_true] at hv
 obtain ⟨rfl, rfl, rfl, rfl, rfl⟩ := hv
 exact ⟨b, off, k, n, d, s, l', o', len', cap', ho, rfl, e0, e1, e2, e3, e4, er⟩
end
section
open Go.RowKit
theorem ret_string {l m : List UInt8} (h : l = m) : Ending.returned (.string ⟨l.toArray⟩) = .returned (.string ⟨m.toArray⟩) := by rw [h]
theorem text_any (n d : Int) (h0 : -9223372036854775808 ≤ n) (h1 : n ≤ 9223372036854775807) (h2 : -9223372036854775808 ≤ d) (h3 : d ≤ 9223372036854775807) (w : World) (hE : Env w) :
  Calls Tryd.prog 27 #[.int .i64 n, .int .i64 d] w fun e w' => e = .returned (.string ⟨(Num.text n d).toArray⟩) ∧ Below w.heap.size w w' := by
 cases hr : Num.right n d
 ·have HK := Lib.hid (show Num.text n d = [] by simp [Num.text, hr])
  have HR := Lib.hid hr
  go_enter Tryd.func27, Tryd.ntmps27
  go_wp2_with (first | (go_at_call 37; refine (right_to n d false HR.out (by omega) (by omega) (by omega) (by omega) _).mono ?_; rintro e' w1 ⟨rfl, k, rfl⟩))
  go_ret
  exact ⟨ret_string (l := []) HK.out.symm, Below.selfN _ _⟩
 have HR := Lib.hid hr
 by_cases hd : d = 1
 ·subst hd
  have HK := Lib.hid (show Num.text n 1 = Lib.itoa n by simp [Num.text, hr])
  clear hr
  go_enter Tryd.func27, Tryd.ntmps27
  go_wp2_with (first | (go_at_call 37; refine (right_to n 1 true HR.out (by omega) (by omega) (by omega) (by omega) _).mono ?_; rintro e' w1 ⟨rfl, k, rfl⟩) | (go_at_call 42; refine (itoa_any n (by omega) (by omega) _ (Env.drewN hE _)).mono ?_; rintro e' w1 ⟨rfl, hb⟩))
  go_ret
  exact ⟨ret_string HK.out.symm, Below.ofN hb⟩
 ·have hd1 : (d == 1) = false := by simpa using hd
  have HK := Lib.hid (show Num.text n d = Lib.itoa n ++ 47 :: Lib.itoa d by simp [Num.text, hr, hd])
  clear hr
  have l1 := Lib.itoa_length_le n (by omega) (by omega)
  have l2 := Lib.itoa_length_le d (by omega) (by omega)
  go_enter Tryd.func27, Tryd.ntmps27
  go_wp2_with (first | (go_at_call 37; refine (right_to n d true HR.out (by omega) (by omega) (by omega) (by omega) _).mono ?_; rintro e' w1 ⟨rfl, k, rfl⟩) | (go_at_call 42; with_reducible refine (itoa_any n (by omega) (by omega) _ (Env.drewN hE _)).mono ?_; rintro e' w1 ⟨rfl, hb⟩) | (go_at_call 42; with_reducible refine (itoa_any d (by omega) (by omega) _ (Env.below (Env.drewN hE _) (by assumption))).mono ?_; rintro e' w2 ⟨rfl, hb2⟩))
  go_ret
  refine ⟨?_, Below.next (Below.ofN hb) hb2⟩
  rw [HK.out]
  show Ending.returned (.string ((⟨(Lib.itoa n).toArray⟩ ++ ⟨[47].toArray⟩) ++ ⟨(Lib.itoa d).toArray⟩)) = _
  rw [str_app, str_app]
  simp
end
section
open Go.RowKit
namespace Num
def digs : List UInt8 := [48, 49, 50, 51, 52, 53, 54, 55, 56, 57]
theorem digs_iff (b : UInt8) : digs.contains b = isDigit b := by
 have : ∀ k : Fin 256, digs.contains (UInt8.ofNat k.val) = isDigit (UInt8.ofNat k.val) := by decide +kernel
 have e : b = UInt8.ofNat b.toNat := by simp
 rw [e]
 exact this ⟨b.toNat, b.toNat_lt⟩
theorem dropWhile_nil {α : Type} (p : α → Bool) (l : List α) : l.dropWhile p = [] ↔ ∀ b ∈ l, p b = true := by
 induction l with
 | nil => simp
 | cons c l ih =>
  simp only [List.dropWhile_cons, List.mem_cons, forall_eq_or_imp]
  split
  ·rename_i h; simp [h, ih]
  ·rename_i h; simp [h]
theorem mem_dropWhile {α : Type} {p : α → Bool} {l : List α} {b : α} (h : b ∈ l) (hb : p b = false) : b ∈ l.dropWhile p := by
 induction l with
 | nil => cases h
 | cons c l ih =>
  rw [List.dropWhile_cons]
  split
  ·rename_i hc
   rcases List.mem_cons.1 h with rfl | h
   ·rw [hb] at hc; cases hc
   ·exact ih h
  ·exact h
theorem trimS_nil (l cs : List UInt8) : Lib.trimS l cs = [] ↔ ∀ b ∈ l, cs.contains b = true := by
 unfold Lib.trimS Lib.trimLeftS Lib.trimRightS
 rw [dropWhile_nil]
 constructor
 ·intro h b hb
  cases hc : cs.contains b with
  | true => rfl
  | false =>
   have h1 : b ∈ l.reverse.dropWhile (cs.contains ·) := mem_dropWhile (by simpa using hb) hc
   have := h b (by simpa using h1)
   rw [hc] at this; exact this
 ·intro h b hb
  have h1 : b ∈ l.reverse.dropWhile (cs.contains ·) := by simpa using hb
  have : b ∈ l.reverse := (List.dropWhile_sublist _).mem h1
  exact h b (by simpa using this)
theorem digitVal_some {b : UInt8} (h : isDigit b = true) : Lib.digitVal b = some (b.toNat - 48) := by
 simp only [isDigit, Bool.and_eq_true, decide_eq_true_eq] at h
 unfold Lib.digitVal; rw [if_pos h]
theorem digitVal_none {b : UInt8} (h : isDigit b = false) : Lib.digitVal b = none := by
 unfold Lib.digitVal
 rw [if_neg]
 intro hc
 simp [isDigit, hc] at h
theorem decFrom_digits : ∀ (l : List UInt8) (acc : Nat), (∀ b ∈ l, isDigit b = true) → ∃ m, Lib.decFrom acc l = some m
 | [], acc, _ => ⟨acc, rfl⟩
 | c :: l, acc, h => by
  simp only [Lib.decFrom, digitVal_some (h c (by simp))]
  exact decFrom_digits l _ (fun b hb => h b (by simp [hb]))
theorem decFrom_none : ∀ (l : List UInt8) (acc : Nat), (∃ b ∈ l, isDigit b = false) → Lib.decFrom acc l = none
 | [], acc, h => by obtain ⟨b, hb, _⟩ := h; cases hb
 | c :: l, acc, h => by
  obtain ⟨b, hb, hd⟩ := h
  simp only [Lib.decFrom]
  cases hc : isDigit c with
  | false => rw [digitVal_none hc]
  | true =>
   rw [digitVal_some hc]
   refine decFrom_none l _ ⟨b, ?_, hd⟩
   rcases List.mem_cons.1 hb with rfl | hb
   ·rw [hc] at hd; cases hd
   ·exact hb
theorem nat?_cases (l : List UInt8) : (nat? l = none ∧ (l.length = 0 ∨ 10 < l.length ∨ (l.length ≤ 10 ∧ Lib.trimS l digs ≠ []))) ∨
  (∃ m : Nat, nat? l = some m ∧ l.length ≠ 0 ∧ l.length ≤ 10 ∧ Lib.trimS l digs = [] ∧ Lib.atoi l = some (m : Int) ∧ m < 10000000000) := by
 by_cases h0 : l.length = 0
 ·left
  refine ⟨?_, .inl h0⟩
  have : l = [] := List.length_eq_zero_iff.1 h0
  subst this; rfl
 by_cases h1 : 10 < l.length
 ·left
  exact ⟨by unfold nat?; rw [if_neg (by omega)], .inr (.inl h1)⟩
 by_cases h2 : Lib.trimS l digs = []
 ·right
  have hd : ∀ b ∈ l, isDigit b = true := fun b hb => by rw [← digs_iff]; exact (trimS_nil _ _).1 h2 b hb
  obtain ⟨m, hm⟩ := decFrom_digits l 0 hd
  have hn : Lib.decNat l = some m := by
   unfold Lib.decNat
   rw [if_neg (by simpa using fun e : l = [] => h0 (by rw [e]; rfl)), hm]
  refine ⟨m, by unfold nat?; rw [if_pos (by omega), hn], h0, by omega, h2, ?_, ?_⟩
  ·match l, h0 with
   | c :: r, _ =>
    have hc := hd c (by simp)
    simp only [isDigit, Bool.and_eq_true, decide_eq_true_eq] at hc
    simp only [Lib.atoi]
    rw [if_neg (by simp only [beq_iff_eq]; rintro rfl; simp at hc), if_neg (by simp only [beq_iff_eq]; rintro rfl; simp at hc), hn]
    rfl
  ·have := Lib.decFrom_lt l 0 m hm
   have hp : 10 ^ l.length ≤ 10 ^ 10 := Nat.pow_le_pow_right (by omega) (by omega)
   omega
 ·left
  refine ⟨?_, .inr (.inr ⟨by omega, h2⟩)⟩
  have : ∃ b ∈ l, isDigit b = false := by
   apply Decidable.byContradiction
   intro hc
   apply h2
   rw [trimS_nil]
   intro b hb
   rw [digs_iff]
   cases hd : isDigit b with
   | true => rfl
   | false => exact absurd ⟨b, hb, hd⟩ hc
  unfold nat?
  split
  ·unfold Lib.decNat
   split
   ·rfl
   ·exact decFrom_none l 0 this
  ·rfl
end Num
theorem trim_to (s : ByteArray) (T : List UInt8) (hs : s.size ≤ 9223372036854775807) (hT : Lib.trimS s.data.toList Num.digs = T) (w : World) :
  Calls Tryd.prog 54 #[.string s, .string ⟨#[48, 49, 50, 51, 52, 53, 54, 55, 56, 57]⟩] w fun e w' => e = .returned (.string ⟨T.toArray⟩) ∧ Below w.heap.size w w' := by
 have := trim_any s ⟨#[48, 49, 50, 51, 52, 53, 54, 55, 56, 57]⟩ hs (by decide) (by decide) w
 rw [show (⟨#[48, 49, 50, 51, 52, 53, 54, 55, 56, 57]⟩ : ByteArray).data.toList = Num.digs from rfl, hT] at this
 exact this
theorem natural_any (s : ByteArray) (hs : s.size ≤ 9223372036854775807) (w : World) :
  Calls Tryd.prog 49 #[.string s] w fun e w' => e = .returned (.tuple #[.int .i64 (((Num.nat? s.data.toList).getD 0 : Nat) : Int), .bool (Num.nat? s.data.toList).isSome]) ∧ Below w.heap.size w w' := by
 have hl : s.data.toList.length = s.size := rfl
 rcases Num.nat?_cases s.data.toList with ⟨hn, h⟩ | ⟨m, hn, h0, h1, h2, h3, h4⟩
 ·have HN := Lib.hid hn
  rw [hl] at h
  clear hl hn
  rcases h with h | h | ⟨h, ht⟩
  ·go_enter Tryd.func49, Tryd.ntmps49
   go_wp2
   go_ret2
   exact ⟨by rw [HN.out]; rfl, Below.self _⟩
  ·have hz : ((s.size : Int) == 0) = false := by simp; rintro rfl; simp at h
   have hne : ¬ s = ByteArray.empty := by rintro rfl; simp at h
   go_enter Tryd.func49, Tryd.ntmps49
   go_wp2
   go_ret2
   exact ⟨by rw [HN.out]; rfl, Below.self _⟩
  ·by_cases h0 : s.size = 0
   ·go_enter Tryd.func49, Tryd.ntmps49
    go_wp2
    go_ret2
    exact ⟨by rw [HN.out]; rfl, Below.self _⟩
   have hne : ¬ s = ByteArray.empty := by rintro rfl; simp at h0
   have hz : ((s.size : Int) == 0) = false := by simpa using hne
   obtain ⟨T, hT⟩ : ∃ T, Lib.trimS s.data.toList Num.digs = T := ⟨_, rfl⟩
   rw [hT] at ht
   have HT := Lib.hid hT
   clear hT
   have he : T.isEmpty = false := by simpa using ht
   go_enter Tryd.func49, Tryd.ntmps49
   go_wp2_with (first | (go_at_call 54; refine (trim_to s T hs HT.out _).mono ?_; rintro e' w1 ⟨rfl, hb⟩))
   go_ret2
   exact ⟨by rw [HN.out]; rfl, hb⟩
 ·have HN := Lib.hid hn
  have H2 := Lib.hid h2
  have H3 := Lib.hid h3
  rw [hl] at h0 h1
  have hne : ¬ s = ByteArray.empty := by rintro rfl; simp at h0
  have hz : ((s.size : Int) == 0) = false := by simpa using hne
  clear hl hn h2 h3
  go_enter Tryd.func49, Tryd.ntmps49
  go_wp2_with (first | (go_at_call 54; refine (trim_to s [] hs H2.out _).mono ?_; rintro e' w1 ⟨rfl, hb⟩) | (go_at_call 62; refine (atoi_any s m (by omega) H3.out _).mono ?_; rintro e' w2 ⟨rfl, hb2⟩))
  go_quiet (fail)
  go_wp2
  go_ret2
  exact ⟨by rw [HN.out]; rfl, Below.drewN (Below.next hb hb2) _⟩
end
section
open Go.RowKit
namespace Num
theorem indexByte_slash (l : List UInt8) : (Lib.indexByte l 47 = -1 ∧ l.takeWhile noSlash = l ∧ l.dropWhile noSlash = []) ∨
  (∃ i : Nat, Lib.indexByte l 47 = i ∧ i < l.length ∧ l.takeWhile noSlash = l.take i ∧ l.dropWhile noSlash = 47 :: l.drop (i + 1)) := by
 induction l with
 | nil => left; exact ⟨rfl, rfl, rfl⟩
 | cons b l ih =>
  by_cases hb : b = 47
  ·subst hb
   right
   exact ⟨0, by simp [Lib.indexByte], by simp, by simp [noSlash], by simp [noSlash]⟩
  ·have hn : noSlash b = true := by simpa [noSlash] using hb
   have hb0 : (b == 47) = false := by simpa using hb
   rcases ih with ⟨h1, h2, h3⟩ | ⟨i, h1, h2, h3, h4⟩
   ·left
    refine ⟨by simp [Lib.indexByte, hb0, h1], by simp [hn, h2], by simp [hn, h3]⟩
   ·right
    refine ⟨i + 1, ?_, by simp; omega, by simp [hn, h3], by simp [hn, h4]⟩
    have hne : ((i : Int) == -1) = false := by simp
    simp only [Lib.indexByte, hb0, h1, hne]
    simp
end Num
theorem extract_list (s : ByteArray) (a b : Nat) : s.extract a b = ⟨((s.data.toList.take b).drop a).toArray⟩ := by
 apply ByteArray.ext
 rw [ByteArray.data_extract]
 apply Array.ext'
 simp [Array.toList_extract, List.extract_eq_take_drop, List.drop_take]
theorem str_self (s : ByteArray) : (⟨s.data.toList.toArray⟩ : ByteArray) = s := by
 obtain ⟨⟨l⟩⟩ := s; rfl
theorem ret_cut {a b a' b' : ByteArray} {c c' : Bool} (h1 : a = a') (h2 : b = b') (h3 : c = c') : Ending.returned (.tuple #[.string a, .string b, .bool c]) = .returned (.tuple #[.string a', .string b', .bool c']) := by
 rw [h1, h2, h3]
theorem cutlite_any (s : ByteArray) (hs : s.size ≤ 9223372036854775807) (w : World) :
  Calls Tryd.prog 61 #[.string s, .string ⟨#[47]⟩] w fun e w' => e = .returned (.tuple #[.string ⟨(s.data.toList.takeWhile Num.noSlash).toArray⟩, .string ⟨((s.data.toList.dropWhile Num.noSlash).tail).toArray⟩, .bool (!(s.data.toList.dropWhile Num.noSlash).isEmpty)]) ∧ Below w.heap.size w w' := by
 have hl : s.data.toList.length = s.size := rfl
 have hI := Tryd.stringslite_Index_one s 47
 rcases Num.indexByte_slash s.data.toList with ⟨h1, h2, h3⟩ | ⟨i, h1, h2, h3, h4⟩
 ·rw [h1] at hI
  have HI := Lib.hid hI
  rw [h2, h3]
  clear hI h1 h2 h3
  go_enter Tryd.func61, Tryd.ntmps61
  go_wp2_with (first | (go_at_call 70; refine (HI.out _).mono ?_; rintro e' w1 ⟨rfl, rfl⟩))
  go_ret3
  exact ⟨ret_cut (str_self s).symm rfl rfl, Below.self _⟩
 ·rw [h1] at hI
  have HI := Lib.hid hI
  rw [h3, h4]
  rw [hl] at h2
  clear hI h1 h3 h4
  go_enter Tryd.func61, Tryd.ntmps61
  go_wp2_with (first | (go_at_call 70; refine (HI.out _).mono ?_; rintro e' w1 ⟨rfl, rfl⟩))
  go_quiet (fail)
  go_wp2
  go_ret3
  exact ⟨ret_cut (by rw [extract_list]; simp) (by rw [extract_list, ← hl, List.take_length]; rfl) rfl, Below.selfN _ _⟩
theorem cut_any (s : ByteArray) (hs : s.size ≤ 9223372036854775807) (w : World) :
  Calls Tryd.prog 48 #[.string s, .string ⟨#[47]⟩] w fun e w' => e = .returned (.tuple #[.string ⟨(s.data.toList.takeWhile Num.noSlash).toArray⟩, .string ⟨((s.data.toList.dropWhile Num.noSlash).tail).toArray⟩, .bool (!(s.data.toList.dropWhile Num.noSlash).isEmpty)]) ∧ Below w.heap.size w w' := by
 obtain ⟨A, hA⟩ : ∃ A, s.data.toList.takeWhile Num.noSlash = A := ⟨_, rfl⟩
 obtain ⟨B, hB⟩ : ∃ B, (s.data.toList.dropWhile Num.noSlash).tail = B := ⟨_, rfl⟩
 obtain ⟨c, hc⟩ : ∃ c, (!(s.data.toList.dropWhile Num.noSlash).isEmpty) = c := ⟨_, rfl⟩
 have hI := cutlite_any s hs w
 rw [hA, hB, hc] at hI ⊢
 have HI := Lib.hid hI
 clear hI hA hB hc
 go_enter Tryd.func48, Tryd.ntmps48
 go_wp2_with (first | (go_at_call 61; refine HI.out.mono ?_; rintro e' w1 ⟨rfl, hb⟩))
 go_ret3
 exact ⟨rfl, hb⟩
theorem cut_to (l A B : List UInt8) (c : Bool) (hA : l.takeWhile Num.noSlash = A) (hB : (l.dropWhile Num.noSlash).tail = B) (hc : (!(l.dropWhile Num.noSlash).isEmpty) = c) (hs : l.length ≤ 9223372036854775807) (w : World) :
  Calls Tryd.prog 48 #[.string ⟨l.toArray⟩, .string ⟨#[47]⟩] w fun e w' => e = .returned (.tuple #[.string ⟨A.toArray⟩, .string ⟨B.toArray⟩, .bool c]) ∧ Below w.heap.size w w' := by
 have := cut_any ⟨l.toArray⟩ (by simpa [ByteArray.size] using hs) w
 simp only [hA, hB, hc] at this
 exact this
theorem natural_to (l : List UInt8) (o : Option Nat) (ho : Num.nat? l = o) (hs : l.length ≤ 9223372036854775807) (w : World) :
  Calls Tryd.prog 49 #[.string ⟨l.toArray⟩] w fun e w' => e = .returned (.tuple #[.int .i64 ((o.getD 0 : Nat) : Int), .bool o.isSome]) ∧ Below w.heap.size w w' := by
 have := natural_any ⟨l.toArray⟩ (by simpa [ByteArray.size] using hs) w
 simp only [ho] at this
 exact this
theorem cutPrefix_to (s : ByteArray) (l : List UInt8) (neg : Bool) (h1 : Lib.trimPrefix s.data.toList [45] = l) (h2 : Lib.hasPrefix s.data.toList [45] = neg) (w : World) :
  Calls Tryd.prog 47 #[.string s, .string ⟨#[45]⟩] w fun e w' => e = .returned (.tuple #[.string ⟨l.toArray⟩, .bool neg]) ∧ Below w.heap.size w w' := by
 refine (Tryd.strings_CutPrefix s ⟨#[45]⟩ w).mono ?_
 rintro e w' ⟨rfl, rfl⟩
 rw [show (⟨#[45]⟩ : ByteArray).data.toList = [45] from rfl, h1, h2]
 exact ⟨rfl, Below.self _⟩
namespace Num
theorem nat?_lt {l : List UInt8} {m : Nat} (h : nat? l = some m) : m < 10000000000 := by
 rcases nat?_cases l with ⟨h1, _⟩ | ⟨k, h1, _, _, _, _, h2⟩
 ·rw [h1] at h; cases h
 ·rw [h1] at h; cases h; exact h2
theorem parse_cases (l : List UInt8) : ∃ (neg : Bool) (r : List UInt8), Lib.trimPrefix l [45] = r ∧ Lib.hasPrefix l [45] = neg ∧ parse l = parseU neg r ∧ r.length ≤ l.length := by
 cases l with
 | nil => exact ⟨false, [], rfl, rfl, rfl, Nat.le_refl _⟩
 | cons b r =>
  by_cases hb : b = 45
  ·subst hb
   exact ⟨true, r, by simp [Lib.trimPrefix, Lib.hasPrefix], by simp [Lib.hasPrefix], rfl, by simp⟩
  ·have hb0 : ((45 : UInt8) == b) = false := by simpa using fun h : (45 : UInt8) = b => hb h.symm
   have hp : Lib.hasPrefix (b :: r) [45] = false := by
    unfold Lib.hasPrefix
    simp only [List.isPrefixOf, hb0, Bool.false_and]
   refine ⟨false, b :: r, by unfold Lib.trimPrefix; rw [hp]; rfl, hp, ?_, Nat.le_refl _⟩
   unfold parse
   split
   ·rename_i h; simp only [List.cons.injEq] at h; exact absurd h.1 hb
   ·rfl
theorem parseU_cases (neg : Bool) (r : List UInt8) : ∃ (A B C : List UInt8) (c : Bool) (oA oC : Option Nat), r.takeWhile noSlash = A ∧ (r.dropWhile noSlash).tail = B ∧ (!(r.dropWhile noSlash).isEmpty) = c ∧
  C = (if c = true then B else [49]) ∧ nat? A = oA ∧ nat? C = oC ∧ A.length ≤ r.length ∧ C.length ≤ r.length + 1 ∧
  parseU neg r = (match oA, oC with
   | some n, some d => ((mk (if neg then -(n : Int) else n) d).1, (mk (if neg then -(n : Int) else n) d).2.1, decide ((mk (if neg then -(n : Int) else n) d).2.2 = 0))
   | _, _ => (0, 0, false)) := by
 refine ⟨_, _, _, _, _, _, rfl, rfl, rfl, rfl, rfl, rfl, (List.takeWhile_sublist _).length_le, ?_, ?_⟩
 ·split
  ·have := (List.dropWhile_sublist noSlash (l := r)).length_le
   simp only [List.length_tail]; omega
  ·simp
 ·unfold parseU lower
  cases r.dropWhile noSlash <;> rfl
end Num
theorem ret_parse {a b : Int} {p q : Bool} {P : Int × Int × Bool} (h : P = (a, b, q)) (h' : p = q) : Ending.returned (.tuple #[.int .i64 a, .int .i64 b, .bool p]) = .returned (.tuple #[.int .i64 P.1, .int .i64 P.2.1, .bool P.2.2]) := by
 rw [h, h']
theorem parse_any (s : ByteArray) (hs : s.size ≤ 9223372036854775806) (w : World) :
  Calls Tryd.prog 34 #[.string s] w fun e w' => e = .returned (.tuple #[.int .i64 (Num.parse s.data.toList).1, .int .i64 (Num.parse s.data.toList).2.1, .bool (Num.parse s.data.toList).2.2]) ∧ Below w.heap.size w w' := by
 have hl : s.data.toList.length = s.size := rfl
 obtain ⟨neg, r, h1, h2, h3, h4⟩ := Num.parse_cases s.data.toList
 obtain ⟨A, B, C, c, oA, oC, k1, k2, k3, k4, k5, k6, k7, k8, k9⟩ := Num.parseU_cases neg r
 rw [hl] at h4
 rw [k9] at h3
 have H1 := Lib.hid h1
 have H2 := Lib.hid h2
 have K1 := Lib.hid k1
 have K2 := Lib.hid k2
 have K3 := Lib.hid k3
 have K5 := Lib.hid k5
 have K6 := Lib.hid k6
 have HP := Lib.hid h3
 clear hl h1 h2 h3 k9 k1 k2 k3
 have e0 : s.size ≤ 9223372036854775807 := by omega
 cases oA with
 | none =>
  cases c
  ·simp only [Bool.false_eq_true, if_false] at k4
   first | (have k4 := k4.symm; subst k4; have _u := B) | subst k4
   go_enter Tryd.func34, Tryd.ntmps34
   go_wp2_with (first | (go_at_call 47; refine (cutPrefix_to s r _ H1.out H2.out _).mono ?_; rintro e' w1 ⟨rfl, hb⟩) | (go_at_call 48; refine (cut_to r A B _ K1.out K2.out K3.out (by omega) _).mono ?_; rintro e' w2 ⟨rfl, hb'⟩; have hb2 := Below.next hb hb'; clear hb') | (go_at_call 49; ((with_reducible refine (natural_to A _ K5.out (by omega) _).mono ?_); rintro e' w3 ⟨rfl, hb'⟩; have hb3 := Below.next hb2 hb'; clear hb')) | (go_at_call 49; ((with_reducible refine (natural_to [49] _ K6.out (by first | omega | (simp only [List.length_cons, List.length_nil]; omega)) _).mono ?_); rintro e' w4 ⟨rfl, hb'⟩; have hb4 := Below.next hb3 hb'; clear hb')))
   all_goals go_ret3
   all_goals exact ⟨ret_parse HP.out rfl, by assumption⟩
  ·simp only [if_true] at k4
   first | (have k4 := k4.symm; subst k4; have _u := B) | subst k4
   go_enter Tryd.func34, Tryd.ntmps34
   go_wp2_with (first | (go_at_call 47; refine (cutPrefix_to s r _ H1.out H2.out _).mono ?_; rintro e' w1 ⟨rfl, hb⟩) | (go_at_call 48; refine (cut_to r A B _ K1.out K2.out K3.out (by omega) _).mono ?_; rintro e' w2 ⟨rfl, hb'⟩; have hb2 := Below.next hb hb'; clear hb') | (go_at_call 49; ((with_reducible refine (natural_to A _ K5.out (by omega) _).mono ?_); rintro e' w3 ⟨rfl, hb'⟩; have hb3 := Below.next hb2 hb'; clear hb')) | (go_at_call 49; ((with_reducible refine (natural_to B _ K6.out (by first | omega | (simp only [List.length_cons, List.length_nil]; omega)) _).mono ?_); rintro e' w4 ⟨rfl, hb'⟩; have hb4 := Below.next hb3 hb'; clear hb')))
   all_goals go_ret3
   all_goals exact ⟨ret_parse HP.out rfl, by assumption⟩
 | some n =>
  have hn := Num.nat?_lt k5
  cases oC with
  | none =>
   cases c
   ·simp only [Bool.false_eq_true, if_false] at k4
    first | (have k4 := k4.symm; subst k4; have _u := B) | subst k4
    go_enter Tryd.func34, Tryd.ntmps34
    go_wp2_with (first | (go_at_call 47; refine (cutPrefix_to s r _ H1.out H2.out _).mono ?_; rintro e' w1 ⟨rfl, hb⟩) | (go_at_call 48; refine (cut_to r A B _ K1.out K2.out K3.out (by omega) _).mono ?_; rintro e' w2 ⟨rfl, hb'⟩; have hb2 := Below.next hb hb'; clear hb') | (go_at_call 49; ((with_reducible refine (natural_to A _ K5.out (by omega) _).mono ?_); rintro e' w3 ⟨rfl, hb'⟩; have hb3 := Below.next hb2 hb'; clear hb')) | (go_at_call 49; ((with_reducible refine (natural_to [49] _ K6.out (by first | omega | (simp only [List.length_cons, List.length_nil]; omega)) _).mono ?_); rintro e' w4 ⟨rfl, hb'⟩; have hb4 := Below.next hb3 hb'; clear hb')))
    all_goals go_ret3
    all_goals exact ⟨ret_parse HP.out rfl, by assumption⟩
   ·simp only [if_true] at k4
    first | (have k4 := k4.symm; subst k4; have _u := B) | subst k4
    go_enter Tryd.func34, Tryd.ntmps34
    go_wp2_with (first | (go_at_call 47; refine (cutPrefix_to s r _ H1.out H2.out _).mono ?_; rintro e' w1 ⟨rfl, hb⟩) | (go_at_call 48; refine (cut_to r A B _ K1.out K2.out K3.out (by omega) _).mono ?_; rintro e' w2 ⟨rfl, hb'⟩; have hb2 := Below.next hb hb'; clear hb') | (go_at_call 49; ((with_reducible refine (natural_to A _ K5.out (by omega) _).mono ?_); rintro e' w3 ⟨rfl, hb'⟩; have hb3 := Below.next hb2 hb'; clear hb')) | (go_at_call 49; ((with_reducible refine (natural_to B _ K6.out (by first | omega | (simp only [List.length_cons, List.length_nil]; omega)) _).mono ?_); rintro e' w4 ⟨rfl, hb'⟩; have hb4 := Below.next hb3 hb'; clear hb')))
    all_goals go_ret3
    all_goals exact ⟨ret_parse HP.out rfl, by assumption⟩
  | some d =>
   have hd := Num.nat?_lt k6
   cases neg with
   | true =>
    obtain ⟨x, y, z, hm⟩ : ∃ x y z, Num.mk (-(n : Int)) d = (x, y, z) := ⟨_, _, _, rfl⟩
    have HM := Lib.hid hm
    have HF := Lib.hid (show Num.parse s.data.toList = (x, y, decide (z = 0)) by rw [HP.out]; simp [hm])
    clear hm
    cases c
    ·simp only [Bool.false_eq_true, if_false] at k4
     first | (have k4 := k4.symm; subst k4; have _u := B) | subst k4
     go_enter Tryd.func34, Tryd.ntmps34
     go_wp2_with (first | (go_at_call 47; refine (cutPrefix_to s r _ H1.out H2.out _).mono ?_; rintro e' w1 ⟨rfl, hb⟩) | (go_at_call 48; refine (cut_to r A B _ K1.out K2.out K3.out (by omega) _).mono ?_; rintro e' w2 ⟨rfl, hb'⟩; have hb2 := Below.next hb hb'; clear hb') | (go_at_call 49; ((with_reducible refine (natural_to A _ K5.out (by omega) _).mono ?_); rintro e' w3 ⟨rfl, hb'⟩; have hb3 := Below.next hb2 hb'; clear hb')) | (go_at_call 49; ((with_reducible refine (natural_to [49] _ K6.out (by first | omega | (simp only [List.length_cons, List.length_nil]; omega)) _).mono ?_); rintro e' w4 ⟨rfl, hb'⟩; have hb4 := Below.next hb3 hb'; clear hb')) | (go_at_call 50; refine (make_to (-(n : Int)) d x y z HM.out (by omega) (by omega) (by omega) (by omega) _).mono ?_; rintro e' w5 ⟨rfl, k, rfl⟩))
     go_ret3
     exact ⟨ret_parse HF.out (by first | rfl | simp), Below.drewN hb4 _⟩
    ·simp only [if_true] at k4
     first | (have k4 := k4.symm; subst k4; have _u := B) | subst k4
     go_enter Tryd.func34, Tryd.ntmps34
     go_wp2_with (first | (go_at_call 47; refine (cutPrefix_to s r _ H1.out H2.out _).mono ?_; rintro e' w1 ⟨rfl, hb⟩) | (go_at_call 48; refine (cut_to r A B _ K1.out K2.out K3.out (by omega) _).mono ?_; rintro e' w2 ⟨rfl, hb'⟩; have hb2 := Below.next hb hb'; clear hb') | (go_at_call 49; ((with_reducible refine (natural_to A _ K5.out (by omega) _).mono ?_); rintro e' w3 ⟨rfl, hb'⟩; have hb3 := Below.next hb2 hb'; clear hb')) | (go_at_call 49; ((with_reducible refine (natural_to B _ K6.out (by first | omega | (simp only [List.length_cons, List.length_nil]; omega)) _).mono ?_); rintro e' w4 ⟨rfl, hb'⟩; have hb4 := Below.next hb3 hb'; clear hb')) | (go_at_call 50; refine (make_to (-(n : Int)) d x y z HM.out (by omega) (by omega) (by omega) (by omega) _).mono ?_; rintro e' w5 ⟨rfl, k, rfl⟩))
     go_ret3
     exact ⟨ret_parse HF.out (by first | rfl | simp), Below.drewN hb4 _⟩
   | false =>
    obtain ⟨x, y, z, hm⟩ : ∃ x y z, Num.mk (n : Int) d = (x, y, z) := ⟨_, _, _, rfl⟩
    have HM := Lib.hid hm
    have HF := Lib.hid (show Num.parse s.data.toList = (x, y, decide (z = 0)) by rw [HP.out]; simp [hm])
    clear hm
    cases c
    ·simp only [Bool.false_eq_true, if_false] at k4
     first | (have k4 := k4.symm; subst k4; have _u := B) | subst k4
     go_enter Tryd.func34, Tryd.ntmps34
     go_wp2_with (first | (go_at_call 47; refine (cutPrefix_to s r _ H1.out H2.out _).mono ?_; rintro e' w1 ⟨rfl, hb⟩) | (go_at_call 48; refine (cut_to r A B _ K1.out K2.out K3.out (by omega) _).mono ?_; rintro e' w2 ⟨rfl, hb'⟩; have hb2 := Below.next hb hb'; clear hb') | (go_at_call 49; ((with_reducible refine (natural_to A _ K5.out (by omega) _).mono ?_); rintro e' w3 ⟨rfl, hb'⟩; have hb3 := Below.next hb2 hb'; clear hb')) | (go_at_call 49; ((with_reducible refine (natural_to [49] _ K6.out (by first | omega | (simp only [List.length_cons, List.length_nil]; omega)) _).mono ?_); rintro e' w4 ⟨rfl, hb'⟩; have hb4 := Below.next hb3 hb'; clear hb')) | (go_at_call 50; refine (make_to (n : Int) d x y z HM.out (by omega) (by omega) (by omega) (by omega) _).mono ?_; rintro e' w5 ⟨rfl, k, rfl⟩))
     go_ret3
     exact ⟨ret_parse HF.out (by first | rfl | simp), Below.drewN hb4 _⟩
    ·simp only [if_true] at k4
     first | (have k4 := k4.symm; subst k4; have _u := B) | subst k4
     go_enter Tryd.func34, Tryd.ntmps34
     go_wp2_with (first | (go_at_call 47; refine (cutPrefix_to s r _ H1.out H2.out _).mono ?_; rintro e' w1 ⟨rfl, hb⟩) | (go_at_call 48; refine (cut_to r A B _ K1.out K2.out K3.out (by omega) _).mono ?_; rintro e' w2 ⟨rfl, hb'⟩; have hb2 := Below.next hb hb'; clear hb') | (go_at_call 49; ((with_reducible refine (natural_to A _ K5.out (by omega) _).mono ?_); rintro e' w3 ⟨rfl, hb'⟩; have hb3 := Below.next hb2 hb'; clear hb')) | (go_at_call 49; ((with_reducible refine (natural_to B _ K6.out (by first | omega | (simp only [List.length_cons, List.length_nil]; omega)) _).mono ?_); rintro e' w4 ⟨rfl, hb'⟩; have hb4 := Below.next hb3 hb'; clear hb')) | (go_at_call 50; refine (make_to (n : Int) d x y z HM.out (by omega) (by omega) (by omega) (by omega) _).mono ?_; rintro e' w5 ⟨rfl, k, rfl⟩))
     go_ret3
     exact ⟨ret_parse HF.out (by first | rfl | simp), Below.drewN hb4 _⟩
end
end Go.Proofs.YtpcneeekmhdhgaaDoor

/-
  What the proofs lean on: Sets.
-/
import Derived.Laws.BitsAllLaws
import Derived.Deep.OwnRows
import Derived.Deep.LoopGhost
import Derived.Deep.RegionLaw
import Derived.Test.YtigkhmppnnljiaaGreatDoorLsoA03
import Derived.Test.YtigkhmppnnljiaaGreatDoorLsoA04
import Derived.Test.YtigkhmppnnljiaaGreatDoorLsoA13
import Derived.Test.YtigkhmppnnljiaaGreatDoorLsoA17
set_option maxRecDepth 100000
set_option maxHeartbeats 16000000
namespace Go.Proofs.YtigkhmppnnljiaaGreatDoor
section
theorem u64_bv (x : BitVec 64) : BitVec.ofInt 64 (x.toNat : Int) = x := by
 rw [BitVec.ofInt_natCast]; simp
theorem u64_wrap_bv (x : BitVec 64) : IntKind.u64.wrap (x.toNat : Int) = (x.toNat : Int) := by
 have := x.isLt
 simp only [IntKind.wrap, IntKind.bits, IntKind.signed]
 simp; omega
theorem bits_or_bv (x y : BitVec 64) : bits .or .u64 (x.toNat : Int) (y.toNat : Int) = ((x ||| y).toNat : Int) := by
 show IntKind.u64.wrap (((BitVec.ofInt 64 (x.toNat : Int)) ||| (BitVec.ofInt 64 (y.toNat : Int))).toNat : Int) = _
 rw [u64_bv, u64_bv, u64_wrap_bv]
theorem bits_and_bv (x y : BitVec 64) : bits .and .u64 (x.toNat : Int) (y.toNat : Int) = ((x &&& y).toNat : Int) := by
 show IntKind.u64.wrap (((BitVec.ofInt 64 (x.toNat : Int)) &&& (BitVec.ofInt 64 (y.toNat : Int))).toNat : Int) = _
 rw [u64_bv, u64_bv, u64_wrap_bv]
theorem bits_andNot_bv (x y : BitVec 64) : bits .andNot .u64 (x.toNat : Int) (y.toNat : Int) = ((x &&& ~~~y).toNat : Int) := by
 show IntKind.u64.wrap (((BitVec.ofInt 64 (x.toNat : Int)) &&& ~~~(BitVec.ofInt 64 (y.toNat : Int))).toNat : Int) = _
 rw [u64_bv, u64_bv, u64_wrap_bv]
def one64 (k : Nat) : BitVec 64 := BitVec.twoPow 64 k
theorem shl_bv (k : Nat) (hk : k < 64) : IntKind.u64.wrap (1 * 2 ^ k) = ((one64 k).toNat : Int) := by
 have h : 2 ^ k < 2 ^ 64 := Nat.pow_lt_pow_right (by decide) hk
 rw [one64, BitVec.toNat_twoPow_of_lt hk]
 simp only [IntKind.wrap, IntKind.bits, IntKind.signed]
 have e : (1 : Int) * 2 ^ k = ((2 ^ k : Nat) : Int) := by simp
 rw [e]
 generalize 2 ^ k = m at h
 simp
 omega
theorem shr_bv (x : BitVec 64) (k : Nat) : (bits .and .u64 ((x.toNat : Int) / 2 ^ k) 1 == 1) = x.getLsbD k := by
 have e : ((x.toNat : Int) / 2 ^ k) = (((x >>> k).toNat : Nat) : Int) := by
  rw [BitVec.toNat_ushiftRight, Nat.shiftRight_eq_div_pow]; simp
 rw [e, show (1 : Int) = ((1#64).toNat : Int) from rfl, bits_and_bv]
 rw [Bool.eq_iff_iff, beq_iff_eq]
 constructor
 ·intro h
  have h' : (x >>> k) &&& 1#64 = 1#64 := BitVec.eq_of_toNat_eq (by exact_mod_cast h)
  have := congrArg (fun v => v.getLsbD 0) h'
  simpa using this
 ·intro h
  have h' : (x >>> k) &&& 1#64 = 1#64 := by
   apply BitVec.eq_of_getLsbD_eq
   intro i hi
   rw [BitVec.getLsbD_and, BitVec.getLsbD_ushiftRight, BitVec.getLsbD_one]
   by_cases h0 : i = 0
   ·subst h0; simp [h]
   ·simp [h0]
  rw [h']
theorem one64_bit (k j : Nat) (hk : k < 64) : (one64 k).getLsbD j = decide (j = k) := by
 rw [one64, BitVec.getLsbD_twoPow]
 by_cases h : k = j
 ·subst h; simp [hk]
 ·simp [h, Ne.symm h]
def bitAt (g : Nat → BitVec 64) (n r : Nat) : Bool := decide (r < 64 * n) && (g (r / 64)).getLsbD (r % 64)
theorem bitAt_add (g : Nat → BitVec 64) (n r q : Nat) (hr : r < 64 * n) : bitAt (fun i => if i = r / 64 then g i ||| one64 (r % 64) else g i) n q = (bitAt g n q || decide (q = r)) := by
 unfold bitAt
 dsimp only
 by_cases h : q / 64 = r / 64
 ·rw [if_pos h, BitVec.getLsbD_or, one64_bit _ _ (Nat.mod_lt _ (by decide))]
  have e : (q % 64 = r % 64) ↔ (q = r) := by omega
  simp only [e]
  by_cases hq : q = r
  ·subst hq; simp [hr]
  ·simp [hq]
 ·rw [if_neg h]
  have : q ≠ r := fun e => h (by rw [e])
  simp [this]
def butM (but : Int) (k : Nat) (t : BitVec 64) : BitVec 64 := if 0 ≤ but ∧ but / 64 = k then t &&& ~~~one64 (but % 64).toNat else t
theorem butM_bit (but : Int) (r : Nat) (t : BitVec 64) : (butM but (r / 64) t).getLsbD (r % 64) = (t.getLsbD (r % 64) && decide ((r : Int) ≠ but)) := by
 unfold butM
 split
 ·rename_i h
  rw [BitVec.getLsbD_and, BitVec.getLsbD_not, one64_bit _ _ (by omega)]
  have e : (r % 64 = (but % 64).toNat) ↔ ((r : Int) = but) := by omega
  simp only [e]
  have : r % 64 < 64 := Nat.mod_lt _ (by decide)
  simp [this]
 ·rename_i h
  have : (r : Int) ≠ but := by omega
  simp [this]
theorem bitAt_join (g t : Nat → BitVec 64) (but : Int) (n r : Nat) : bitAt (fun i => g i ||| butM but i (t i)) n r = (bitAt g n r || (bitAt t n r && decide ((r : Int) ≠ but))) := by
 unfold bitAt
 rw [BitVec.getLsbD_or, butM_bit]
 cases decide (r < 64 * n) <;> simp
theorem join_same {g m : BitVec 64} (h : m &&& ~~~g = 0) : g ||| m = g := by
 apply BitVec.eq_of_getLsbD_eq
 intro i hi
 have := congrArg (fun v => v.getLsbD i) h
 simp only [BitVec.getLsbD_and, BitVec.getLsbD_not, hi, decide_true, Bool.true_and] at this
 rw [BitVec.getLsbD_or]
 cases hg : g.getLsbD i <;> cases hm : m.getLsbD i <;> simp_all
theorem join_new {g m : BitVec 64} (h : m &&& ~~~g ≠ 0) : ∃ i, i < 64 ∧ m.getLsbD i = true ∧ g.getLsbD i = false := by
 refine Classical.byContradiction fun hn => h ?_
 apply BitVec.eq_of_getLsbD_eq
 intro i hi
 rw [BitVec.getLsbD_and, BitVec.getLsbD_not]
 cases hg : g.getLsbD i with
 | true => simp
 | false =>
  cases hm : m.getLsbD i with
  | true => exact absurd ⟨i, hi, hm, hg⟩ hn
  | false => simp
def joinC (g t : Nat → BitVec 64) (but : Int) : Nat → Bool
 | 0 => false
 | k + 1 => joinC g t but k || ((butM but k (t k) &&& ~~~g k).toNat : Int) != 0
theorem joinC_false {g t : Nat → BitVec 64} {but : Int} : ∀ {n : Nat}, joinC g t but n = false → ∀ i, i < n → g i ||| butM but i (t i) = g i
 | 0, _, i, hi => by omega
 | k + 1, h, i, hi => by
  simp only [joinC, Bool.or_eq_false_iff] at h
  by_cases hk : i = k
  ·subst hk
   refine join_same ?_
   have := h.2
   simp only [bne_eq_false_iff_eq] at this
   exact BitVec.eq_of_toNat_eq (by simpa using this)
  ·exact joinC_false h.1 i (by omega)
theorem joinC_true {g t : Nat → BitVec 64} {but : Int} : ∀ {n : Nat}, joinC g t but n = true → ∃ i, i < n ∧ butM but i (t i) &&& ~~~g i ≠ 0
 | 0, h => by simp [joinC] at h
 | k + 1, h => by
  simp only [joinC, Bool.or_eq_true] at h
  rcases h with h | h
  ·obtain ⟨i, hi, h⟩ := joinC_true h
   exact ⟨i, by omega, h⟩
  ·refine ⟨k, by omega, fun e => ?_⟩
   rw [e] at h
   simp at h
theorem bitAt_congr {g g' : Nat → BitVec 64} {n : Nat} (h : ∀ i, i < n → g i = g' i) (r : Nat) : bitAt g n r = bitAt g' n r := by
 unfold bitAt
 by_cases hr : r < 64 * n
 ·rw [h _ (by omega)]
 ·simp [hr]
theorem join_unchanged {g t : Nat → BitVec 64} {but : Int} {n : Nat} (h : joinC g t but n = false) (r : Nat) : bitAt (fun i => g i ||| butM but i (t i)) n r = bitAt g n r := bitAt_congr (joinC_false h) r
theorem join_changed {g t : Nat → BitVec 64} {but : Int} {n : Nat} (h : joinC g t but n = true) : ∃ r, r < 64 * n ∧ bitAt g n r = false ∧ bitAt (fun i => g i ||| butM but i (t i)) n r = true := by
 obtain ⟨i, hi, hne⟩ := joinC_true h
 obtain ⟨j, hj, h1, h2⟩ := join_new hne
 refine ⟨64 * i + j, by omega, ?_, ?_⟩
 ·unfold bitAt
  rw [show (64 * i + j) / 64 = i by omega, show (64 * i + j) % 64 = j by omega, h2, Bool.and_false]
 ·unfold bitAt
  rw [show (64 * i + j) / 64 = i by omega, show (64 * i + j) % 64 = j by omega, BitVec.getLsbD_or, h1]
  simp; omega
theorem countP_less {α : Type} {p q : α → Bool} : ∀ {l : List α}, (∀ x ∈ l, q x = true → p x = true) → (∃ x ∈ l, p x = true ∧ q x = false) → l.countP q < l.countP p
 | [], _, h => by obtain ⟨x, hx, _⟩ := h; simp at hx
 | x :: l, hq, h => by
  have hle : l.countP q ≤ l.countP p := List.countP_mono_left fun y hy => hq y (by simp [hy])
  rw [List.countP_cons, List.countP_cons]
  obtain ⟨y, hy, h1, h2⟩ := h
  rcases List.mem_cons.1 hy with rfl | hy'
  ·simp only [h1, h2, ↓reduceIte, Bool.false_eq_true]; omega
  ·have := countP_less (l := l) (fun z hz => hq z (by simp [hz])) ⟨y, hy', h1, h2⟩
   have hx := hq x (by simp)
   cases hqx : q x with
   | true => simp only [hx hqx, ↓reduceIte]; omega
   | false => simp only [Bool.false_eq_true, ↓reduceIte]; omega
def mu (L : List Nat) (n : Nat) (P : Nat → Nat → Bool) : Nat := (L.flatMap fun b => (List.range (64 * n)).map fun r => (b, r)).countP fun q => !P q.1 q.2
theorem mu_mem {L : List Nat} {n b r : Nat} (hb : b ∈ L) (hr : r < 64 * n) : (b, r) ∈ L.flatMap fun b => (List.range (64 * n)).map fun r => (b, r) := by
 rw [List.mem_flatMap]
 exact ⟨b, hb, by simp [hr]⟩
theorem mu_le {L : List Nat} {n : Nat} {P P' : Nat → Nat → Bool} (h : ∀ b r, P b r = true → P' b r = true) : mu L n P' ≤ mu L n P :=
 List.countP_mono_left fun q _ hq => by
  cases hP : P q.1 q.2 with
  | true => rw [h _ _ hP] at hq; simp at hq
  | false => simp
theorem mu_lt {L : List Nat} {n : Nat} {P P' : Nat → Nat → Bool} (h : ∀ b r, P b r = true → P' b r = true) {b r : Nat} (hb : b ∈ L) (hr : r < 64 * n) (h0 : P b r = false) (h1 : P' b r = true) : mu L n P' < mu L n P :=
 countP_less (fun q _ hq => by
  cases hP : P q.1 q.2 with
  | true => rw [h _ _ hP] at hq; simp at hq
  | false => simp) ⟨(b, r), mu_mem hb hr, by simp [h0], by simp [h1]⟩
namespace Live
open Unt Peep
def Upper (code : List Ins) (A B : List Nat) (P : Nat → Nat → Bool) : Prop := ∀ (k : Nat) (x : Ins), code[k]? = some x → (∀ a, A[k]? = some a → ∀ r : Nat, P a r = true → Need code r k) ∧ (∀ b, B[k]? = some b → ∀ r : Nat, P b r = true → ∃ j ∈ succs x k, Need code r j)
def Lower (code : List Ins) (A : List Nat) (P : Nat → Nat → Bool) : Prop := ∀ (k : Nat) (x : Ins) (a : Nat), code[k]? = some x → A[k]? = some a → ∀ r : Nat, (r : Int) ∈ named x → P a r = true
def ShutAt (code : List Ins) (A B : List Nat) (P : Nat → Nat → Bool) (k : Nat) : Prop := ∀ (x : Ins) (a b : Nat), code[k]? = some x → A[k]? = some a → B[k]? = some b → (∀ j ∈ succs x k, ∀ a', A[j]? = some a' → ∀ r, P a' r = true → P b r = true) ∧ ∀ r : Nat, P b r = true → (r : Int) ≠ gives x → P a r = true
theorem solved_all {code : List Ins} {A B : List Nat} {P : Nat → Nat → Bool} (hA : A.length = code.length) (hB : B.length = code.length) (hc : Closed code) (hu : Upper code A B P) (hl : Lower code A P) (hs : ∀ k, k < code.length → ShutAt code A B P k) (r : Nat) :
  (∀ k a, A[k]? = some a → (P a r = true ↔ Need code r k)) ∧ (∀ k b x, code[k]? = some x → B[k]? = some b → (P b r = true ↔ ∃ j ∈ succs x k, Need code r j)) := by
 have key : ∀ {k : Nat}, Need code r k → ∀ a, A[k]? = some a → P a r = true := by
  refine fun h => Need.sub (S := fun k => ∀ a, A[k]? = some a → P a r = true) ?_ ?_ h
  ·intro k x hx hr a ha
   exact hl k x a hx ha r hr
  ·intro k x hx hg j hj hS a ha
   have hk := (List.getElem?_eq_some_iff.1 hx).1
   have hjl := hc.2 k x hx j hj
   obtain ⟨b, hb⟩ : ∃ b, B[k]? = some b := ⟨_, List.getElem?_eq_getElem (by omega)⟩
   obtain ⟨a', ha'⟩ : ∃ a', A[j]? = some a' := ⟨_, List.getElem?_eq_getElem (by omega)⟩
   obtain ⟨h1, h2⟩ := hs k hk x a b hx ha hb
   exact h2 r (h1 j hj a' ha' r (hS a' ha')) (Ne.symm hg)
 refine ⟨fun k a ha => ?_, fun k b x hx hb => ⟨(hu k x hx).2 b hb r, ?_⟩⟩
 ·have hk : k < code.length := by rw [← hA]; exact (List.getElem?_eq_some_iff.1 ha).1
  exact ⟨(hu k _ (List.getElem?_eq_getElem hk)).1 a ha r, fun h => key h a ha⟩
 ·rintro ⟨j, hj, hn⟩
  have hk := (List.getElem?_eq_some_iff.1 hx).1
  have hjl := hc.2 k x hx j hj
  obtain ⟨a, ha⟩ : ∃ a, A[k]? = some a := ⟨_, List.getElem?_eq_getElem (by omega)⟩
  obtain ⟨a', ha'⟩ : ∃ a', A[j]? = some a' := ⟨_, List.getElem?_eq_getElem (by omega)⟩
  exact ((hs k hk x a b hx ha hb).1 j hj a' ha' r (key hn a' ha'))
end Live
end
section
open Go.RowKit
def SetW (w : World) (b n : Nat) (P : Nat → Bool) : Prop := ∃ g : Nat → BitVec 64, w.rowIs b 165 n (fun i => .int .u64 ((g i).toNat : Int)) ∧ ∀ r, P r = bitAt g n r
theorem SetW.grown {w w' : World} {b n : Nat} {P : Nat → Bool} {row : Option Nat} (h : SetW w b n P) (hg : w.grownBy w' row) (hne : some b ≠ row) : SetW w' b n P := by
 obtain ⟨g, hr, hp⟩ := h
 exact ⟨g, hr.of_block (hg.block _ hr.lt hne), hp⟩
theorem SetW.keep {w w' : World} {b n : Nat} {P : Nat → Bool} (h : SetW w b n P) (hb : Below w.heap.size w w') : SetW w' b n P := by
 obtain ⟨g, hr, hp⟩ := h
 exact ⟨g, hr.of_block (hb.block _ hr.lt), hp⟩
theorem SetW.lt {w : World} {b n : Nat} {P : Nat → Bool} (h : SetW w b n P) : b < w.heap.size := by
 obtain ⟨g, hr, hp⟩ := h
 exact hr.lt
theorem grown_set (W : World) (b i : Nat) (v : Value) : W.grownBy (W.setCell ⟨b, i, none⟩ v) (some b) :=
 ⟨rfl, rfl, rfl, by simp, fun k _ hk => setCell_heap_other W ⟨b, i, none⟩ v (fun e => hk (by rw [e]))⟩
theorem shl_op {k : Int} (n : Nat) (hk : k = n) (hn : n < 64) : Op.shift .shl .u64 1 .i64 k = pure (.int .u64 ((one64 n).toNat : Int)) := by
 rw [shift_shl_any _ _ _ _ (by omega), hk, Int.toNat_natCast, show min n (IntKind.bits .u64) = n from by show min n 64 = n; omega, shl_bv n hn]
theorem shr_op {k : Int} (x : BitVec 64) (n : Nat) (hk : k = n) (hn : n < 64) : Op.shift .shr .u64 (x.toNat : Int) .i64 k = pure (.int .u64 ((x >>> n).toNat : Int)) := by
 rw [shift_shr_any _ _ _ _ (by omega), hk, Int.toNat_natCast, show min n (IntKind.bits .u64) = n from by show min n 64 = n; omega, BitVec.toNat_ushiftRight, Nat.shiftRight_eq_div_pow]
 simp
theorem shas_any (b n r : Nat) (P : Nat → Bool) (w : World) (h : SetW w b n P) (hr : r < 64 * n) (hn : n ≤ 1000) :
  Calls Tryz.prog 129 #[.slice (some ⟨b, 0, none⟩) n n, .int .i64 r] w fun e w' => e = .returned (.bool (P r)) ∧ w' = w := by
 obtain ⟨g, hrow, hp⟩ := h
 have hlt : r / 64 < n := by omega
 have c0 := hrow.cell hlt
 have hs := shr_op (k := (r : Int) % 64) (g (r / 64)) (r % 64) (by omega) (by omega)
 have hq := hp r
 clear hrow hp
 go_enter Tryz.func129, Tryz.ntmps129
 go_wp2_with fail
 go_ret
 exact ⟨by rw [hq, bitAt, shr_bv, decide_eq_true hr, Bool.true_and]; rfl, rfl⟩
theorem andNot_nat (x y : BitVec 64) : (x &&& ~~~y).toNat = (x.toNat &&& 18446744073709551615 - y.toNat) := by rw [BitVec.toNat_and, BitVec.toNat_not]
theorem gtrans {A B C : World} {row : Option Nat} (h : A.grownBy B row) (h' : B.grownBy C row) : A.grownBy C row :=
 ⟨h'.os.trans h.os, h'.tape.trans h.tape, h'.output.trans h.output, Nat.le_trans h.size h'.size, fun k hk hne => (h'.block k (Nat.lt_of_lt_of_le hk h.size) hne).trans (h.block k hk hne)⟩
theorem sjoin_any (b tb n : Nat) (but : Int) (P T : Nat → Bool) (w : World) (hS : SetW w b n P) (hT : SetW w tb n T) (hne : b ≠ tb) (hn : n ≤ 1000) (hb : -1 ≤ but) (hb2 : but ≤ 1000000) :
  Calls Tryz.prog 128 #[.slice (some ⟨b, 0, none⟩) n n, .slice (some ⟨tb, 0, none⟩) n n, .int .i64 but] w fun e w' => ∃ (c : Bool) (Q : Nat → Bool), e = .returned (.bool c) ∧ SetW w' b n Q ∧ (∀ r, Q r = (P r || (T r && decide ((r : Int) ≠ but)))) ∧ (c = false → ∀ r, Q r = P r) ∧ (c = true → ∃ r, r < 64 * n ∧ P r = false ∧ Q r = true) ∧ w.grownBy w' (some b) := by
 obtain ⟨g, hrow, hp⟩ := hS
 obtain ⟨t, htrow, ht⟩ := hT
 have HP := Lib.hid hp
 have HT := Lib.hid ht
 have HG0 := Lib.hid (show w.grownBy w (some b) from ⟨rfl, rfl, rfl, Nat.le_refl _, fun _ _ _ => rfl⟩)
 have HR0 := Lib.hid (show w.rowIs b 165 n (fun i => .int .u64 (((if i < 0 then g i ||| butM but i (t i) else g i).toNat : Nat) : Int)) from hrow.congr (by intro i hi; simp))
 have HTR := Lib.hid htrow
 clear hp ht hrow htrow
 go_enter Tryz.func128, Tryz.ntmps128
 go_wp2_with fail
 go_loopg [7, 12] n (fun G c i wr => ∃ k : Nat, G = n - k ∧ k ≤ n ∧ c = .bool (joinC g t but k) ∧ i = .int .i64 k ∧ Hid (wr.rowIs b 165 n (fun i => .int .u64 (((if i < k then g i ||| butM but i (t i) else g i).toNat : Nat) : Int))) ∧ Hid (w.grownBy wr (some b)))
 case atStart => exact ⟨0, rfl, by omega, rfl, rfl, HR0, HG0⟩
 case round =>
  obtain ⟨k, rfl, hk, rfl, rfl, HR, HG⟩ := hrel
  by_cases hkn : k < n
  ·have e0 := HR.out.cell hkn
   have z0 := HR.out.frozen k
   have f0 : wr.cell? ⟨tb, k, none⟩ = some (.int .u64 ((t k).toNat : Int)) := (HTR.out.of_block (HG.out.block _ HTR.out.lt (by simpa using Ne.symm hne))).cell hkn
   rw [if_neg (Nat.lt_irrefl k)] at e0
   obtain ⟨M, hM⟩ : ∃ M, butM but k (t k) = M := ⟨_, rfl⟩
   obtain ⟨c, hc⟩ : ∃ c, joinC g t but k = c := ⟨_, rfl⟩
   have HR1 := Lib.hid (show (wr.setCell ⟨b, k, none⟩ (.int .u64 (((g k ||| M).toNat : Nat) : Int))).rowIs b 165 n (fun i => .int .u64 (((if i < k + 1 then g i ||| butM but i (t i) else g i).toNat : Nat) : Int)) from (HR.out.set k _).congr (by
    intro i hi
    by_cases h : i = k
    ·subst h; simp [hM]
    ·by_cases h2 : i < k
     ·simp [h, h2, show i < k + 1 by omega]
     ·simp [h, h2, show ¬ i < k + 1 by omega]))
   have HG1 := Lib.hid (show w.grownBy (wr.setCell ⟨b, k, none⟩ (.int .u64 (((g k ||| M).toNat : Nat) : Int))) (some b) from gtrans HG.out (grown_set _ _ _ _))
   have hO : bits .or .u64 ((g k).toNat : Int) (M.toNat : Int) = ((g k ||| M).toNat : Int) := bits_or_bv _ _
   have hN : bits .andNot .u64 (M.toNat : Int) ((g k).toNat : Int) = ((M &&& ~~~g k).toNat : Int) := bits_andNot_bv _ _
   rw [hc]
   clear HR HG HR0 HG0
   by_cases hb0 : 0 ≤ but
   ·obtain ⟨m, rfl⟩ := Int.eq_ofNat_of_zero_le hb0
    have d0 : decide ((0 : Int) ≤ (m : Int)) = true := decide_eq_true hb0
    by_cases hm : m / 64 = k
    ·have d1 : ((m : Int) / 64 == (k : Int)) = true := by rw [beq_iff_eq]; omega
     have hw : IntKind.u64.wrap (2 ^ (m % 64)) = ((one64 (m % 64)).toNat : Int) := by rw [← shl_bv _ (Nat.mod_lt _ (by decide)), Int.one_mul]
     have hA : bits .andNot .u64 ((t k).toNat : Int) ((one64 (m % 64)).toNat : Int) = (M.toNat : Int) := by
      rw [bits_andNot_bv, ← hM, butM, if_pos ⟨hb0, by omega⟩, show ((m : Int) % 64).toNat = m % 64 by omega]
     clear hm
     cases c with
     | false =>
      have HJ := Lib.hid (show joinC g t m (k + 1) = (((M &&& ~~~g k).toNat : Int) != 0) from by rw [joinC, hc, hM]; rfl)
      clear hc hM
      go_wp2_with fail
      go_roundg (n - (k + 1))
      case measure => omega
      case rel => exact ⟨k + 1, rfl, by omega, by rw [HJ.out, andNot_nat], by go_num, HR1, HG1⟩
     | true =>
      have HJ := Lib.hid (show joinC g t m (k + 1) = true from by rw [joinC, hc]; rfl)
      clear hc hM
      go_wp2_with fail
      go_roundg (n - (k + 1))
      case measure => omega
      case rel => exact ⟨k + 1, rfl, by omega, by rw [HJ.out], by go_num, HR1, HG1⟩
    ·have d1 : ((m : Int) / 64 == (k : Int)) = false := by rw [beq_eq_false_iff_ne]; omega
     obtain rfl : t k = M := by rw [← hM, butM, if_neg (by omega)]
     clear hm
     cases c with
     | false =>
      have HJ := Lib.hid (show joinC g t m (k + 1) = (((t k &&& ~~~g k).toNat : Int) != 0) from by rw [joinC, hc, hM]; rfl)
      clear hc hM
      go_wp2_with fail
      go_roundg (n - (k + 1))
      case measure => omega
      case rel => exact ⟨k + 1, rfl, by omega, by rw [HJ.out, andNot_nat], by go_num, HR1, HG1⟩
     | true =>
      have HJ := Lib.hid (show joinC g t m (k + 1) = true from by rw [joinC, hc]; rfl)
      clear hc hM
      go_wp2_with fail
      go_roundg (n - (k + 1))
      case measure => omega
      case rel => exact ⟨k + 1, rfl, by omega, by rw [HJ.out], by go_num, HR1, HG1⟩
   ·have d0 : decide ((0 : Int) ≤ but) = false := decide_eq_false hb0
    obtain rfl : t k = M := by rw [← hM, butM, if_neg (fun h => hb0 h.1)]
    cases c with
    | false =>
     have HJ := Lib.hid (show joinC g t but (k + 1) = (((t k &&& ~~~g k).toNat : Int) != 0) from by rw [joinC, hc, hM]; rfl)
     clear hc hM
     go_wp2_with fail
     go_roundg (n - (k + 1))
     case measure => omega
     case rel => exact ⟨k + 1, rfl, by omega, by rw [HJ.out, andNot_nat], by go_num, HR1, HG1⟩
    | true =>
     have HJ := Lib.hid (show joinC g t but (k + 1) = true from by rw [joinC, hc]; rfl)
     clear hc hM
     go_wp2_with fail
     go_roundg (n - (k + 1))
     case measure => omega
     case rel => exact ⟨k + 1, rfl, by omega, by rw [HJ.out], by go_num, HR1, HG1⟩
  ·obtain rfl : k = n := by omega
   obtain ⟨c, hc⟩ : ∃ c, joinC g t but k = c := ⟨_, rfl⟩
   rw [hc]
   have HC := Lib.hid hc
   clear hc
   go_wp2_with fail
   go_ret
   refine ⟨c, bitAt (fun i => g i ||| butM but i (t i)) k, rfl, ⟨_, HR.out.congr (by intro i hi; simp [hi]), fun _ => rfl⟩, fun r => by rw [bitAt_join, ← HP.out, ← HT.out], fun h r => by rw [HP.out]; subst h; exact join_unchanged HC.out r, fun h => ?_, HG.out⟩
   subst h
   obtain ⟨r, h1, h2, h3⟩ := join_changed HC.out
   exact ⟨r, h1, by rw [HP.out]; exact h2, h3⟩
theorem sadd_any (b n r : Nat) (P : Nat → Bool) (w : World) (h : SetW w b n P) (hr : r < 64 * n) (hn : n ≤ 1000) :
  Calls Tryz.prog 126 #[.slice (some ⟨b, 0, none⟩) n n, .int .i64 r] w fun e w' => (∃ v, e = .returned v) ∧ SetW w' b n (fun q => P q || decide (q = r)) ∧ w.grownBy w' (some b) := by
 obtain ⟨g, hrow, hp⟩ := h
 have hlt : r / 64 < n := by omega
 have c0 := hrow.cell hlt
 have z0 := hrow.frozen (r / 64)
 have hw : IntKind.u64.wrap (2 ^ (r % 64)) = ((one64 (r % 64)).toNat : Int) := by rw [← shl_bv _ (Nat.mod_lt _ (by decide)), Int.one_mul]
 have HROW := Lib.hid hrow
 have HP := Lib.hid hp
 clear hrow hp
 go_enter Tryz.func126, Tryz.ntmps126
 go_big_region
 go_wp2_with fail
 go_end0
 rw [bits_or_bv]
 refine ⟨⟨_, rfl⟩, ⟨fun i => if i = r / 64 then g i ||| one64 (r % 64) else g i, ?_, fun q => by rw [bitAt_add _ _ _ _ hr]; show (P q || _) = _; rw [HP.out]⟩, ⟨rfl, rfl, rfl, by simp, fun k _ hk => setCell_heap_other w ⟨b, r / 64, none⟩ _ (fun e => hk (by rw [e]))⟩⟩
 refine ((HROW.out.set (r / 64) _).drew).congr fun i hi => ?_
 by_cases h : i = r / 64
 ·subst h; simp
 ·simp [h]
theorem slist_any (b n r : Nat) (P : Nat → Bool) (w : World) (h : SetW w b n P) (hr : r ≤ 64 * n) (hn : n ≤ 1000) :
  Calls Tryz.prog 81 #[.slice (some ⟨b, 0, none⟩) n n, .int .i64 r] w fun e w' => ∃ v, e = .returned v ∧ w'.ownsRow w.heap.size 3 1 v ((List.range r).filter P).length (((List.range r).filter P).map fun (q : Nat) => Value.int .i64 (q : Int)) ∧ Below w.heap.size w w' := by
 have HS := Lib.hid h
 have HB0 := Lib.hid (Below.refl w.heap.size w)
 have HO0 := Lib.hid (show w.ownsRow w.heap.size 3 1 (.slice none 0 0) ((List.range 0).filter P).length (((List.range 0).filter P).map fun (q : Nat) => Value.int .i64 (q : Int)) from World.ownsRow_nil _ _ _ _)
 clear h
 go_enter Tryz.func81, Tryz.ntmps81
 go_wp2_with fail
 go_loopg [5, 8] r (fun G v i wr => ∃ k : Nat, G = r - k ∧ k ≤ r ∧ i = .int .i64 k ∧ Hid (wr.ownsRow w.heap.size 3 1 v ((List.range k).filter P).length (((List.range k).filter P).map fun (q : Nat) => Value.int .i64 (q : Int))) ∧ Hid (Below w.heap.size w wr))
 case atStart => exact ⟨0, rfl, by omega, rfl, HO0, HB0⟩
 case round =>
  obtain ⟨k, rfl, hk, rfl, HO, HB⟩ := hrel
  clear HO0 HB0
  by_cases hkr : k < r
  ·obtain ⟨q, hq⟩ : ∃ q, P k = q := ⟨_, rfl⟩
   have HC := Lib.hid (shas_any b n k P wr (HS.out.keep HB.out) (by omega) hn)
   rw [hq] at HC
   have HQ := Lib.hid hq
   have hsz := HB.out.size
   clear hq
   go_wp2_with fail
   with_reducible refine HC.out.mono ?_
   rintro e w1 ⟨rfl, rfl⟩
   cases q with
   | false =>
    have HE : (List.range (k + 1)).filter P = (List.range k).filter P := by rw [List.range_succ, List.filter_append]; simp [HQ.out]
    have HN := Lib.hid (show w1.ownsRow w.heap.size 3 1 u5 ((List.range (k + 1)).filter P).length (((List.range (k + 1)).filter P).map fun (q : Nat) => Value.int .i64 (q : Int)) from by rw [HE]; exact HO.out)
    clear HE HC
    go_wp2_with fail
    go_roundg (r - (k + 1))
    case measure => omega
    case rel => exact ⟨k + 1, rfl, by omega, by go_num, HN, HB⟩
   | true =>
    have HE := Lib.hid (show (List.range (k + 1)).filter P = (List.range k).filter P ++ [k] from by rw [List.range_succ, List.filter_append]; simp [HQ.out])
    obtain ⟨i0, hi0, hz0, hz1, hz2⟩ := info_parts info_int
    have hlen : ((List.range k).filter P).length ≤ 64000 := by
     have := List.length_filter_le P (List.range k)
     simp only [List.length_range] at this
     omega
    have HOA := Lib.hid (show (w1.alloc (.cells #[.int .i64 (k : Int)] 3)).ownsRow w.heap.size 3 1 u5 ((List.range k).filter P).length (((List.range k).filter P).map fun (q : Nat) => Value.int .i64 (q : Int)) from HO.out.alloc _)
    clear HC
    go_wp2_with (at_builtin; refine wpList_append_own _ rfl _ _ 32 rfl w.heap.size 3 i0 (.int .i64 0) 1 8 Tryz.underlying32 hi0 hz0 hz1 hz2 rfl (by decide) u5 _ _ rfl HOA.out ⟨w1.heap.size, 0, none⟩ 1 1 [.int .i64 (k : Int)] rfl rfl (new_cells w1 _ _) (by intro u hu; simp only [List.mem_cons, List.not_mem_nil, or_false] at hu; subst hu; rfl) (by unfold maxLen; omega) (by omega) (by simp; omega) ?_)
    intro v' w3 hown hgrow _
    have HN := Lib.hid (show w3.ownsRow w.heap.size 3 1 v' ((List.range (k + 1)).filter P).length (((List.range (k + 1)).filter P).map fun (q : Nat) => Value.int .i64 (q : Int)) from by
     rw [HE.out, List.length_append, List.map_append]; exact hown)
    have HB3 := Lib.hid (show Below w.heap.size w w3 from (HB.out.trans ((Below.one w1 _).mono HB.out.size)).grown hgrow (by simp; omega) (fun g hg => (HO.out.lt g hg).1))
    clear hown hgrow
    go_wp2_with fail
    go_roundg (r - (k + 1))
    case measure => omega
    case rel => exact ⟨k + 1, rfl, by omega, by go_num, HN, HB3⟩
  ·obtain rfl : k = r := by omega
   go_wp2_with fail
   go_ret
   exact ⟨_, rfl, HO.out, HB.out⟩
end
section
open Go.RowKit
theorem SlC.drewn {α : Type} {w : World} {B size : Nat} {R : α → List Value → Prop} {l : List α} {v : Value} (h : SlC w B size R l v) : SlC w.drew B size R l v := h
theorem step_append_ints {w : World} {ops : Array Oper} {o : Oper} {a : Act} {K : Act → World → Prop} {Q : Exit → Act → World → Prop} {E : Prop} (hgd : o.guard = none) (s x : Operand)
  (ho : o.op = .call { callee := .builtin .append, args := #[s, x], argTypes := #[32, 32] }) (base B : Nat) (v : Value) (xs l : List Int) (hs : a.eval s = v) (hown : w.ownsRow base 3 1 v xs.length (xs.map (Value.int .i64)))
  (oa : Option Addr) (m c : Nat) (hx : a.eval x = .slice oa m c) (hsl : SlC w B 1 IntR l (.slice oa m c)) (hb : (xs.length + l.length) * 8 ≤ 140737488355328) (hbase : base ≤ w.heap.size)
  (h : ∀ v' w', w'.ownsRow base 3 1 v' (xs ++ l).length ((xs ++ l).map (Value.int .i64)) → w.grownBy w' v.ownBlock → K (a.put o.dst v') w') :
  if Region.wanted o (yielded ops a.tmps) = true then Oper.wp Tryz.prog o a w K Q else E := by
 have hw : Region.wanted o (yielded ops a.tmps) = true := by simp [Region.wanted, hgd]
 rw [if_pos hw]
 obtain ⟨i0, hi, hz0, hz1, hz2⟩ := info_parts info_int
 obtain ⟨rfl, _, _⟩ := hsl.lens
 cases oa with
 | none =>
  obtain ⟨o', l', c', he, _, _, _, h4⟩ := hsl
  simp only [Value.slice.injEq] at he
  obtain ⟨rfl, rfl, rfl⟩ := he
  obtain ⟨rfl, rfl⟩ := h4
  have hrun := run_append_owned_none (P := Tryz.prog) (w := w) base 32 o.type 3 i0 1 Tryz.underlying32 hi v xs.length _ hown
  unfold Oper.wp
  simp [execOp, ho, resolve, invoke, builtin, hs, hx, hrun, Result.andThen]
  exact h v w (by simpa using hown) ⟨rfl, rfl, rfl, Nat.le_refl _, fun _ _ _ => rfl⟩
 | some ad =>
  refine wp_append_own w s x 32 ho base 3 i0 (.int .i64 0) 1 8 Tryz.underlying32 hi hz0 hz1 hz2 rfl (by decide) v xs.length _ hs hown ad l.length c (l.map (Value.int .i64)) hx (by simp) (intsCell hsl ad rfl) (ints_one l) (by unfold maxLen; omega) hb hbase ?_
  intro v' w' h1 h2 _
  exact h v' w' (by simpa using h1) h2
theorem step_append_uses {w : World} {ops : Array Oper} {o : Oper} {a : Act} {K : Act → World → Prop} {Q : Exit → Act → World → Prop} {E : Prop} (hgd : o.guard = none) (s x : Operand)
  (ho : o.op = .call { callee := .builtin .append, args := #[s, x], argTypes := #[32, 32] }) (cs : Array Value) (B : Nat) (hB : B ≤ w.heap.size) (y d : Int) (hc : cs[1]? = some (.int .i64 d)) (l : List Int) (hs : a.eval s = .slice (some ⟨w.heap.size + 1, 0, none⟩) 1 1)
  (oa : Option Addr) (m c : Nat) (hx : a.eval x = .slice oa m c) (hsl : Hid (SlC w B 1 IntR l (.slice oa m c))) (hb : l.length ≤ 1000000)
  (h : ∀ v' w', Hid (w'.ownsRow w.heap.size 3 1 v' (y :: l).length ((y :: l).map (Value.int .i64))) → Hid (Below w.heap.size w w') → w'.cell? ⟨w.heap.size, 1, none⟩ = some (.int .i64 d) → K (a.put o.dst v') w') :
  if Region.wanted o (yielded ops a.tmps) = true then Oper.wp Tryz.prog o a ((w.alloc (.cells cs 34)).alloc (.cells #[.int .i64 y] 3)).drew K Q else E := by
 have h2 : Below w.heap.size w ((w.alloc (.cells cs 34)).alloc (.cells #[.int .i64 y] 3)) := (Below.one w _).trans ((Below.one _ _).mono (by simp))
 refine step_append_ints hgd s x ho w.heap.size B (.slice (some ⟨w.heap.size + 1, 0, none⟩) 1 1) [y] l hs (show ((w.alloc (.cells cs 34)).alloc (.cells #[.int .i64 y] 3)).drew.ownsRow w.heap.size 3 1 (.slice (some ⟨w.heap.size + 1, 0, none⟩) 1 1) 1 [.int .i64 y] from ownsRow_new (W := w.alloc (.cells cs 34)) (b := w.heap.size + 1) (base := w.heap.size) (by simp) (by omega) 3 1 1 [.int .i64 y] rfl (by unfold maxLen; omega)) oa m c hx ((hsl.out.kept (h2.mono hB) fun _ _ _ h => h).drewn) (by simp; omega) h2.size ?_
 intro v' w' hown hgrow
 have hbl : w'.heap[w.heap.size]? = some (.cells cs 34 (0, 0)) := (hgrow.block w.heap.size (by show w.heap.size < ((w.alloc _).alloc _).heap.size; simp; omega) (by simp [Value.ownBlock])).trans ((Below.heap_alloc _ _ _ (by simp)).trans (World.alloc_heap_new w _))
 refine h v' w' (Lib.hid hown) (Lib.hid ((h2.drew).grown hgrow h2.size (fun g hg => by simp [Value.ownBlock] at hg; omega))) ?_
 unfold World.cell?
 simp only [hbl]
 simpa using hc
theorem uses_0 (d a b : Int) (l : List Int) (o : Option Addr) (len cap : Nat) (B : Nat) (w : World) (ha : I64 a) (hb : I64 b) (hv : SlC w B 1 IntR l (.slice o len cap)) (_hB : B ≤ w.heap.size) (hmx : l.length ≤ 1000000) :
  Calls Tryz.prog 125 #[.agg #[.int .i64 0, .int .i64 d, .int .i64 a, .int .i64 b, .slice o len cap]] w (NamedPost ⟨0, d, a, b, l⟩ w) := by
 have HG : Unt.gives ⟨0, d, a, b, l⟩ = d := by simp [Unt.gives]
 have HN : Unt.named ⟨0, d, a, b, l⟩ = [] := by simp [Unt.named]
 unfold NamedPost
 rw [HG, HN]
 have HV := Lib.hid hv
 have HA := Lib.hid ha
 have HB := Lib.hid hb
 obtain ⟨hlen, hcap, hmax⟩ := hv.lens
 have HL := Lib.hid hlen
 have hmx' : len ≤ 1000000 := by omega
 clear HG HN hv ha hb hlen
 go_enter Tryz.func125, Tryz.ntmps125
 go_wp2_with fail
 go_region
 go_wp2_with fail
 go_ret2
 exact ⟨_, rfl, ⟨none, 0, 0, rfl, rfl, by omega, by omega, rfl, rfl⟩, (Below.one _ _).drew⟩
theorem uses_1 (d a b : Int) (l : List Int) (o : Option Addr) (len cap : Nat) (B : Nat) (w : World) (ha : I64 a) (hb : I64 b) (hv : SlC w B 1 IntR l (.slice o len cap)) (_hB : B ≤ w.heap.size) (hmx : l.length ≤ 1000000) :
  Calls Tryz.prog 125 #[.agg #[.int .i64 1, .int .i64 d, .int .i64 a, .int .i64 b, .slice o len cap]] w (NamedPost ⟨1, d, a, b, l⟩ w) := by
 have HG : Unt.gives ⟨1, d, a, b, l⟩ = d := by simp [Unt.gives]
 have HN : Unt.named ⟨1, d, a, b, l⟩ = [a] := by simp [Unt.named]
 unfold NamedPost
 rw [HG, HN]
 have HV := Lib.hid hv
 have HA := Lib.hid ha
 have HB := Lib.hid hb
 obtain ⟨hlen, hcap, hmax⟩ := hv.lens
 have HL := Lib.hid hlen
 have hmx' : len ≤ 1000000 := by omega
 clear HG HN hv ha hb hlen
 go_enter Tryz.func125, Tryz.ntmps125
 go_wp2_with fail
 go_region
 go_wp2_with fail
 go_ret2
 exact ⟨_, rfl, (intsNew (W := (w.alloc (.cells #[.int .i64 1, .int .i64 d, .int .i64 a, .int .i64 b, .slice o len cap] 34))) (B := ((w.alloc (.cells #[.int .i64 1, .int .i64 d, .int .i64 a, .int .i64 b, .slice o len cap] 34)).alloc (.cells #[.int .i64 a] 3)).heap.size) (by simp) (by simp) 3 [a] (by simp [HA.out]) 1 rfl (by omega)).drewn, ((Below.one w _).trans ((Below.one _ _).mono (by simp))).drew⟩
theorem uses_2 (d a b : Int) (l : List Int) (o : Option Addr) (len cap : Nat) (B : Nat) (w : World) (ha : I64 a) (hb : I64 b) (hv : SlC w B 1 IntR l (.slice o len cap)) (_hB : B ≤ w.heap.size) (hmx : l.length ≤ 1000000) :
  Calls Tryz.prog 125 #[.agg #[.int .i64 2, .int .i64 d, .int .i64 a, .int .i64 b, .slice o len cap]] w (NamedPost ⟨2, d, a, b, l⟩ w) := by
 have HG : Unt.gives ⟨2, d, a, b, l⟩ = d := by simp [Unt.gives]
 have HN : Unt.named ⟨2, d, a, b, l⟩ = [] := by simp [Unt.named]
 unfold NamedPost
 rw [HG, HN]
 have HV := Lib.hid hv
 have HA := Lib.hid ha
 have HB := Lib.hid hb
 obtain ⟨hlen, hcap, hmax⟩ := hv.lens
 have HL := Lib.hid hlen
 have hmx' : len ≤ 1000000 := by omega
 clear HG HN hv ha hb hlen
 go_enter Tryz.func125, Tryz.ntmps125
 go_wp2_with fail
 go_region
 go_wp2_with fail
 go_ret2
 exact ⟨_, rfl, ⟨none, 0, 0, rfl, rfl, by omega, by omega, rfl, rfl⟩, (Below.one _ _).drew⟩
theorem uses_3 (d a b : Int) (l : List Int) (o : Option Addr) (len cap : Nat) (B : Nat) (w : World) (ha : I64 a) (hb : I64 b) (hv : SlC w B 1 IntR l (.slice o len cap)) (_hB : B ≤ w.heap.size) (hmx : l.length ≤ 1000000) :
  Calls Tryz.prog 125 #[.agg #[.int .i64 3, .int .i64 d, .int .i64 a, .int .i64 b, .slice o len cap]] w (NamedPost ⟨3, d, a, b, l⟩ w) := by
 have HG : Unt.gives ⟨3, d, a, b, l⟩ = d := by simp [Unt.gives]
 have HN : Unt.named ⟨3, d, a, b, l⟩ = [] := by simp [Unt.named]
 unfold NamedPost
 rw [HG, HN]
 have HV := Lib.hid hv
 have HA := Lib.hid ha
 have HB := Lib.hid hb
 obtain ⟨hlen, hcap, hmax⟩ := hv.lens
 have HL := Lib.hid hlen
 have hmx' : len ≤ 1000000 := by omega
 clear HG HN hv ha hb hlen
 go_enter Tryz.func125, Tryz.ntmps125
 go_wp2_with fail
 go_region
 go_wp2_with fail
 go_ret2
 exact ⟨_, rfl, ⟨none, 0, 0, rfl, rfl, by omega, by omega, rfl, rfl⟩, (Below.one _ _).drew⟩
theorem uses_4 (d a b : Int) (l : List Int) (o : Option Addr) (len cap : Nat) (B : Nat) (w : World) (ha : I64 a) (hb : I64 b) (hv : SlC w B 1 IntR l (.slice o len cap)) (_hB : B ≤ w.heap.size) (hmx : l.length ≤ 1000000) :
  Calls Tryz.prog 125 #[.agg #[.int .i64 4, .int .i64 d, .int .i64 a, .int .i64 b, .slice o len cap]] w (NamedPost ⟨4, d, a, b, l⟩ w) := by
 have HG : Unt.gives ⟨4, d, a, b, l⟩ = d := by simp [Unt.gives]
 have HN : Unt.named ⟨4, d, a, b, l⟩ = [] := by simp [Unt.named]
 unfold NamedPost
 rw [HG, HN]
 have HV := Lib.hid hv
 have HA := Lib.hid ha
 have HB := Lib.hid hb
 obtain ⟨hlen, hcap, hmax⟩ := hv.lens
 have HL := Lib.hid hlen
 have hmx' : len ≤ 1000000 := by omega
 clear HG HN hv ha hb hlen
 go_enter Tryz.func125, Tryz.ntmps125
 go_wp2_with fail
 go_region
 go_wp2_with fail
 go_ret2
 exact ⟨_, rfl, ⟨none, 0, 0, rfl, rfl, by omega, by omega, rfl, rfl⟩, (Below.one _ _).drew⟩
theorem uses_5 (d a b : Int) (l : List Int) (o : Option Addr) (len cap : Nat) (B : Nat) (w : World) (ha : I64 a) (hb : I64 b) (hv : SlC w B 1 IntR l (.slice o len cap)) (_hB : B ≤ w.heap.size) (hmx : l.length ≤ 1000000) :
  Calls Tryz.prog 125 #[.agg #[.int .i64 5, .int .i64 d, .int .i64 a, .int .i64 b, .slice o len cap]] w (NamedPost ⟨5, d, a, b, l⟩ w) := by
 have HG : Unt.gives ⟨5, d, a, b, l⟩ = d := by simp [Unt.gives]
 have HN : Unt.named ⟨5, d, a, b, l⟩ = [] := by simp [Unt.named]
 unfold NamedPost
 rw [HG, HN]
 have HV := Lib.hid hv
 have HA := Lib.hid ha
 have HB := Lib.hid hb
 obtain ⟨hlen, hcap, hmax⟩ := hv.lens
 have HL := Lib.hid hlen
 have hmx' : len ≤ 1000000 := by omega
 clear HG HN hv ha hb hlen
 go_enter Tryz.func125, Tryz.ntmps125
 go_wp2_with fail
 go_region
 go_wp2_with fail
 go_ret2
 exact ⟨_, rfl, ⟨none, 0, 0, rfl, rfl, by omega, by omega, rfl, rfl⟩, (Below.one _ _).drew⟩
theorem uses_6 (d a b : Int) (l : List Int) (o : Option Addr) (len cap : Nat) (B : Nat) (w : World) (ha : I64 a) (hb : I64 b) (hv : SlC w B 1 IntR l (.slice o len cap)) (_hB : B ≤ w.heap.size) (hmx : l.length ≤ 1000000) :
  Calls Tryz.prog 125 #[.agg #[.int .i64 6, .int .i64 d, .int .i64 a, .int .i64 b, .slice o len cap]] w (NamedPost ⟨6, d, a, b, l⟩ w) := by
 have HG : Unt.gives ⟨6, d, a, b, l⟩ = d := by simp [Unt.gives]
 have HN : Unt.named ⟨6, d, a, b, l⟩ = [] := by simp [Unt.named]
 unfold NamedPost
 rw [HG, HN]
 have HV := Lib.hid hv
 have HA := Lib.hid ha
 have HB := Lib.hid hb
 obtain ⟨hlen, hcap, hmax⟩ := hv.lens
 have HL := Lib.hid hlen
 have hmx' : len ≤ 1000000 := by omega
 clear HG HN hv ha hb hlen
 go_enter Tryz.func125, Tryz.ntmps125
 go_wp2_with fail
 go_region
 go_wp2_with fail
 go_ret2
 exact ⟨_, rfl, ⟨none, 0, 0, rfl, rfl, by omega, by omega, rfl, rfl⟩, (Below.one _ _).drew⟩
theorem uses_7 (d a b : Int) (l : List Int) (o : Option Addr) (len cap : Nat) (B : Nat) (w : World) (ha : I64 a) (hb : I64 b) (hv : SlC w B 1 IntR l (.slice o len cap)) (_hB : B ≤ w.heap.size) (hmx : l.length ≤ 1000000) :
  Calls Tryz.prog 125 #[.agg #[.int .i64 7, .int .i64 d, .int .i64 a, .int .i64 b, .slice o len cap]] w (NamedPost ⟨7, d, a, b, l⟩ w) := by
 have HG : Unt.gives ⟨7, d, a, b, l⟩ = d := by simp [Unt.gives]
 have HN : Unt.named ⟨7, d, a, b, l⟩ = l := by simp [Unt.named]
 unfold NamedPost
 rw [HG, HN]
 have HV := Lib.hid hv
 have HA := Lib.hid ha
 have HB := Lib.hid hb
 obtain ⟨hlen, hcap, hmax⟩ := hv.lens
 have HL := Lib.hid hlen
 have hmx' : len ≤ 1000000 := by omega
 clear HG HN hv ha hb hlen
 go_enter Tryz.func125, Tryz.ntmps125
 go_wp2_with fail
 go_region
 go_wp2_with fail
 go_ret2
 exact ⟨_, rfl, ((HV.out.kept ((Below.one w (.cells #[.int .i64 7, .int .i64 d, .int .i64 a, .int .i64 b, .slice o len cap] 34)).mono _hB) fun _ _ _ h => h).wider (by simp; omega)).drewn, (Below.one _ _).drew⟩
theorem uses_8 (d a b : Int) (l : List Int) (o : Option Addr) (len cap : Nat) (B : Nat) (w : World) (ha : I64 a) (hb : I64 b) (hv : SlC w B 1 IntR l (.slice o len cap)) (_hB : B ≤ w.heap.size) (hmx : l.length ≤ 1000000) :
  Calls Tryz.prog 125 #[.agg #[.int .i64 8, .int .i64 d, .int .i64 a, .int .i64 b, .slice o len cap]] w (NamedPost ⟨8, d, a, b, l⟩ w) := by
 have HG : Unt.gives ⟨8, d, a, b, l⟩ = -1 := by simp [Unt.gives]
 have HN : Unt.named ⟨8, d, a, b, l⟩ = a :: l := by simp [Unt.named]
 unfold NamedPost
 rw [HG, HN]
 have HV := Lib.hid hv
 have HA := Lib.hid ha
 have HB := Lib.hid hb
 obtain ⟨hlen, hcap, hmax⟩ := hv.lens
 have HL := Lib.hid hlen
 have hmx' : len ≤ 1000000 := by omega
 clear HG HN hv ha hb hlen
 go_enter Tryz.func125, Tryz.ntmps125
 have HO := Lib.hid (ownsRow_new (W := (w.alloc (.cells #[.int .i64 8, .int .i64 d, .int .i64 a, .int .i64 b, .slice o len cap] 34))) (b := w.heap.size + 1) (base := w.heap.size) (by simp) (by omega) 3 1 1 [.int .i64 a] rfl (by unfold maxLen; omega))
 have HS := Lib.hid (show SlC ((w.alloc (.cells #[.int .i64 8, .int .i64 d, .int .i64 a, .int .i64 b, .slice o len cap] 34)).alloc (.cells [.int .i64 a].toArray 3)) B 1 IntR l (.slice o len cap) from HV.out.kept (((Below.one w _).trans ((Below.one _ _).mono (by simp))).mono _hB) fun _ _ _ h => h)
 go_wp2_with (at_builtin; refine wpList_append_ints rfl (.tmp 37) (.tmp 39) rfl w.heap.size B (.slice (some ⟨w.heap.size + 1, 0, none⟩) 1 1) [a] l rfl HO.out o len cap rfl HS.out (by have := HL.out; simp; omega) (by simp; omega) ?_)
 intro v' w2 hown hgrow
 have HR := Lib.hid hown
 have HBE := Lib.hid (show Below w.heap.size w w2 from ((Below.one w _).trans ((Below.one _ _).mono (by simp))).grown hgrow (by simp; omega) (fun g hg => by simp [Value.ownBlock] at hg; omega))
 have bx : BoxL w2 w.heap.size 34 [.int .i64 8, .int .i64 d, .int .i64 a, .int .i64 b, .slice o len cap] := (hgrow.block _ (by simp; omega) (by simp [Value.ownBlock])).trans ((BoxL.new rfl _ _).alloc _)
 have x0 := bx.cell 0 rfl
 have x1 := bx.cell 1 rfl
 clear hown hgrow bx
 go_wp2_with fail
 go_ret2
 exact ⟨_, rfl, rowInts (l := [a] ++ l) HR.out (by intro x hx; rcases List.mem_cons.1 hx with rfl | h; exact HA.out; exact HV.out.i64 x h), HBE.out⟩
theorem uses_9 (d a b : Int) (l : List Int) (o : Option Addr) (len cap : Nat) (B : Nat) (w : World) (ha : I64 a) (hb : I64 b) (hv : SlC w B 1 IntR l (.slice o len cap)) (_hB : B ≤ w.heap.size) (hmx : l.length ≤ 1000000) :
  Calls Tryz.prog 125 #[.agg #[.int .i64 9, .int .i64 d, .int .i64 a, .int .i64 b, .slice o len cap]] w (NamedPost ⟨9, d, a, b, l⟩ w) := by
 have HG : Unt.gives ⟨9, d, a, b, l⟩ = d := by simp [Unt.gives]
 have HN : Unt.named ⟨9, d, a, b, l⟩ = l := by simp [Unt.named]
 unfold NamedPost
 rw [HG, HN]
 have HV := Lib.hid hv
 have HA := Lib.hid ha
 have HB := Lib.hid hb
 obtain ⟨hlen, hcap, hmax⟩ := hv.lens
 have HL := Lib.hid hlen
 have hmx' : len ≤ 1000000 := by omega
 clear HG HN hv ha hb hlen
 go_enter Tryz.func125, Tryz.ntmps125
 go_wp2_with fail
 go_region
 go_wp2_with fail
 go_ret2
 exact ⟨_, rfl, ((HV.out.kept ((Below.one w (.cells #[.int .i64 9, .int .i64 d, .int .i64 a, .int .i64 b, .slice o len cap] 34)).mono _hB) fun _ _ _ h => h).wider (by simp; omega)).drewn, (Below.one _ _).drew⟩
theorem uses_10 (d a b : Int) (l : List Int) (o : Option Addr) (len cap : Nat) (B : Nat) (w : World) (ha : I64 a) (hb : I64 b) (hv : SlC w B 1 IntR l (.slice o len cap)) (_hB : B ≤ w.heap.size) (hmx : l.length ≤ 1000000) :
  Calls Tryz.prog 125 #[.agg #[.int .i64 10, .int .i64 d, .int .i64 a, .int .i64 b, .slice o len cap]] w (NamedPost ⟨10, d, a, b, l⟩ w) := by
 have HG : Unt.gives ⟨10, d, a, b, l⟩ = d := by simp [Unt.gives]
 have HN : Unt.named ⟨10, d, a, b, l⟩ = [a] := by simp [Unt.named]
 unfold NamedPost
 rw [HG, HN]
 have HV := Lib.hid hv
 have HA := Lib.hid ha
 have HB := Lib.hid hb
 obtain ⟨hlen, hcap, hmax⟩ := hv.lens
 have HL := Lib.hid hlen
 have hmx' : len ≤ 1000000 := by omega
 clear HG HN hv ha hb hlen
 go_enter Tryz.func125, Tryz.ntmps125
 go_wp2_with fail
 go_region
 go_wp2_with fail
 go_ret2
 exact ⟨_, rfl, (intsNew (W := (w.alloc (.cells #[.int .i64 10, .int .i64 d, .int .i64 a, .int .i64 b, .slice o len cap] 34))) (B := ((w.alloc (.cells #[.int .i64 10, .int .i64 d, .int .i64 a, .int .i64 b, .slice o len cap] 34)).alloc (.cells #[.int .i64 a] 3)).heap.size) (by simp) (by simp) 3 [a] (by simp [HA.out]) 1 rfl (by omega)).drewn, ((Below.one w _).trans ((Below.one _ _).mono (by simp))).drew⟩
theorem uses_11 (d a b : Int) (l : List Int) (o : Option Addr) (len cap : Nat) (B : Nat) (w : World) (ha : I64 a) (hb : I64 b) (hv : SlC w B 1 IntR l (.slice o len cap)) (_hB : B ≤ w.heap.size) (hmx : l.length ≤ 1000000) :
  Calls Tryz.prog 125 #[.agg #[.int .i64 11, .int .i64 d, .int .i64 a, .int .i64 b, .slice o len cap]] w (NamedPost ⟨11, d, a, b, l⟩ w) := by
 have HG : Unt.gives ⟨11, d, a, b, l⟩ = d := by simp [Unt.gives]
 have HN : Unt.named ⟨11, d, a, b, l⟩ = [a] := by simp [Unt.named]
 unfold NamedPost
 rw [HG, HN]
 have HV := Lib.hid hv
 have HA := Lib.hid ha
 have HB := Lib.hid hb
 obtain ⟨hlen, hcap, hmax⟩ := hv.lens
 have HL := Lib.hid hlen
 have hmx' : len ≤ 1000000 := by omega
 clear HG HN hv ha hb hlen
 go_enter Tryz.func125, Tryz.ntmps125
 go_wp2_with fail
 go_region
 go_wp2_with fail
 go_ret2
 exact ⟨_, rfl, (intsNew (W := (w.alloc (.cells #[.int .i64 11, .int .i64 d, .int .i64 a, .int .i64 b, .slice o len cap] 34))) (B := ((w.alloc (.cells #[.int .i64 11, .int .i64 d, .int .i64 a, .int .i64 b, .slice o len cap] 34)).alloc (.cells #[.int .i64 a] 3)).heap.size) (by simp) (by simp) 3 [a] (by simp [HA.out]) 1 rfl (by omega)).drewn, ((Below.one w _).trans ((Below.one _ _).mono (by simp))).drew⟩
theorem uses_12 (d a b : Int) (l : List Int) (o : Option Addr) (len cap : Nat) (B : Nat) (w : World) (ha : I64 a) (hb : I64 b) (hv : SlC w B 1 IntR l (.slice o len cap)) (_hB : B ≤ w.heap.size) (hmx : l.length ≤ 1000000) :
  Calls Tryz.prog 125 #[.agg #[.int .i64 12, .int .i64 d, .int .i64 a, .int .i64 b, .slice o len cap]] w (NamedPost ⟨12, d, a, b, l⟩ w) := by
 have HG : Unt.gives ⟨12, d, a, b, l⟩ = -1 := by simp [Unt.gives]
 have HN : Unt.named ⟨12, d, a, b, l⟩ = [a, b] := by simp [Unt.named]
 unfold NamedPost
 rw [HG, HN]
 have HV := Lib.hid hv
 have HA := Lib.hid ha
 have HB := Lib.hid hb
 obtain ⟨hlen, hcap, hmax⟩ := hv.lens
 have HL := Lib.hid hlen
 have hmx' : len ≤ 1000000 := by omega
 clear HG HN hv ha hb hlen
 go_enter Tryz.func125, Tryz.ntmps125
 go_wp2_with fail
 go_ret2
 exact ⟨_, rfl, (intsNew (W := (w.alloc (.cells #[.int .i64 12, .int .i64 d, .int .i64 a, .int .i64 b, .slice o len cap] 34))) (B := ((w.alloc (.cells #[.int .i64 12, .int .i64 d, .int .i64 a, .int .i64 b, .slice o len cap] 34)).alloc (.cells #[.int .i64 a, .int .i64 b] 3)).heap.size) (by simp) (by simp) 3 [a, b] (by simp [HA.out, HB.out]) 2 rfl (by omega)), ((Below.one w _).trans ((Below.one _ _).mono (by simp)))⟩
theorem uses_13 (d a b : Int) (l : List Int) (o : Option Addr) (len cap : Nat) (B : Nat) (w : World) (ha : I64 a) (hb : I64 b) (hv : SlC w B 1 IntR l (.slice o len cap)) (_hB : B ≤ w.heap.size) (hmx : l.length ≤ 1000000) :
  Calls Tryz.prog 125 #[.agg #[.int .i64 13, .int .i64 d, .int .i64 a, .int .i64 b, .slice o len cap]] w (NamedPost ⟨13, d, a, b, l⟩ w) := by
 have HG : Unt.gives ⟨13, d, a, b, l⟩ = -1 := by simp [Unt.gives]
 have HN : Unt.named ⟨13, d, a, b, l⟩ = [a, b] := by simp [Unt.named]
 unfold NamedPost
 rw [HG, HN]
 have HV := Lib.hid hv
 have HA := Lib.hid ha
 have HB := Lib.hid hb
 obtain ⟨hlen, hcap, hmax⟩ := hv.lens
 have HL := Lib.hid hlen
 have hmx' : len ≤ 1000000 := by omega
 clear HG HN hv ha hb hlen
 go_enter Tryz.func125, Tryz.ntmps125
 go_wp2_with fail
 go_ret2
 exact ⟨_, rfl, (intsNew (W := (w.alloc (.cells #[.int .i64 13, .int .i64 d, .int .i64 a, .int .i64 b, .slice o len cap] 34))) (B := ((w.alloc (.cells #[.int .i64 13, .int .i64 d, .int .i64 a, .int .i64 b, .slice o len cap] 34)).alloc (.cells #[.int .i64 a, .int .i64 b] 3)).heap.size) (by simp) (by simp) 3 [a, b] (by simp [HA.out, HB.out]) 2 rfl (by omega)), ((Below.one w _).trans ((Below.one _ _).mono (by simp)))⟩
theorem uses_14 (d a b : Int) (l : List Int) (o : Option Addr) (len cap : Nat) (B : Nat) (w : World) (ha : I64 a) (hb : I64 b) (hv : SlC w B 1 IntR l (.slice o len cap)) (_hB : B ≤ w.heap.size) (hmx : l.length ≤ 1000000) :
  Calls Tryz.prog 125 #[.agg #[.int .i64 14, .int .i64 d, .int .i64 a, .int .i64 b, .slice o len cap]] w (NamedPost ⟨14, d, a, b, l⟩ w) := by
 have HG : Unt.gives ⟨14, d, a, b, l⟩ = d := by simp [Unt.gives]
 have HN : Unt.named ⟨14, d, a, b, l⟩ = [a] := by simp [Unt.named]
 unfold NamedPost
 rw [HG, HN]
 have HV := Lib.hid hv
 have HA := Lib.hid ha
 have HB := Lib.hid hb
 obtain ⟨hlen, hcap, hmax⟩ := hv.lens
 have HL := Lib.hid hlen
 have hmx' : len ≤ 1000000 := by omega
 clear HG HN hv ha hb hlen
 go_enter Tryz.func125, Tryz.ntmps125
 go_wp2_with fail
 go_region
 go_wp2_with fail
 go_ret2
 exact ⟨_, rfl, (intsNew (W := (w.alloc (.cells #[.int .i64 14, .int .i64 d, .int .i64 a, .int .i64 b, .slice o len cap] 34))) (B := ((w.alloc (.cells #[.int .i64 14, .int .i64 d, .int .i64 a, .int .i64 b, .slice o len cap] 34)).alloc (.cells #[.int .i64 a] 3)).heap.size) (by simp) (by simp) 3 [a] (by simp [HA.out]) 1 rfl (by omega)).drewn, ((Below.one w _).trans ((Below.one _ _).mono (by simp))).drew⟩
theorem uses_15 (d a b : Int) (l : List Int) (o : Option Addr) (len cap : Nat) (B : Nat) (w : World) (ha : I64 a) (hb : I64 b) (hv : SlC w B 1 IntR l (.slice o len cap)) (_hB : B ≤ w.heap.size) (hmx : l.length ≤ 1000000) :
  Calls Tryz.prog 125 #[.agg #[.int .i64 15, .int .i64 d, .int .i64 a, .int .i64 b, .slice o len cap]] w (NamedPost ⟨15, d, a, b, l⟩ w) := by
 have HG : Unt.gives ⟨15, d, a, b, l⟩ = -1 := by simp [Unt.gives]
 have HN : Unt.named ⟨15, d, a, b, l⟩ = [] := by simp [Unt.named]
 unfold NamedPost
 rw [HG, HN]
 have HV := Lib.hid hv
 have HA := Lib.hid ha
 have HB := Lib.hid hb
 obtain ⟨hlen, hcap, hmax⟩ := hv.lens
 have HL := Lib.hid hlen
 have hmx' : len ≤ 1000000 := by omega
 clear HG HN hv ha hb hlen
 go_enter Tryz.func125, Tryz.ntmps125
 go_wp2_with fail
 go_ret2
 exact ⟨_, rfl, ⟨none, 0, 0, rfl, rfl, by omega, by omega, rfl, rfl⟩, (Below.one _ _)⟩
theorem uses_16 (d a b : Int) (l : List Int) (o : Option Addr) (len cap : Nat) (B : Nat) (w : World) (ha : I64 a) (hb : I64 b) (hv : SlC w B 1 IntR l (.slice o len cap)) (_hB : B ≤ w.heap.size) (hmx : l.length ≤ 1000000) :
  Calls Tryz.prog 125 #[.agg #[.int .i64 16, .int .i64 d, .int .i64 a, .int .i64 b, .slice o len cap]] w (NamedPost ⟨16, d, a, b, l⟩ w) := by
 have HG : Unt.gives ⟨16, d, a, b, l⟩ = -1 := by simp [Unt.gives]
 have HN : Unt.named ⟨16, d, a, b, l⟩ = [a] := by simp [Unt.named]
 unfold NamedPost
 rw [HG, HN]
 have HV := Lib.hid hv
 have HA := Lib.hid ha
 have HB := Lib.hid hb
 obtain ⟨hlen, hcap, hmax⟩ := hv.lens
 have HL := Lib.hid hlen
 have hmx' : len ≤ 1000000 := by omega
 clear HG HN hv ha hb hlen
 go_enter Tryz.func125, Tryz.ntmps125
 go_wp2_with fail
 go_ret2
 exact ⟨_, rfl, (intsNew (W := (w.alloc (.cells #[.int .i64 16, .int .i64 d, .int .i64 a, .int .i64 b, .slice o len cap] 34))) (B := ((w.alloc (.cells #[.int .i64 16, .int .i64 d, .int .i64 a, .int .i64 b, .slice o len cap] 34)).alloc (.cells #[.int .i64 a] 3)).heap.size) (by simp) (by simp) 3 [a] (by simp [HA.out]) 1 rfl (by omega)), ((Below.one w _).trans ((Below.one _ _).mono (by simp)))⟩
theorem uses_17 (d a b : Int) (l : List Int) (o : Option Addr) (len cap : Nat) (B : Nat) (w : World) (ha : I64 a) (hb : I64 b) (hv : SlC w B 1 IntR l (.slice o len cap)) (_hB : B ≤ w.heap.size) (hmx : l.length ≤ 1000000) :
  Calls Tryz.prog 125 #[.agg #[.int .i64 17, .int .i64 d, .int .i64 a, .int .i64 b, .slice o len cap]] w (NamedPost ⟨17, d, a, b, l⟩ w) := by
 have HG : Unt.gives ⟨17, d, a, b, l⟩ = d := by simp [Unt.gives]
 have HN : Unt.named ⟨17, d, a, b, l⟩ = a :: l := by simp [Unt.named]
 unfold NamedPost
 rw [HG, HN]
 have HV := Lib.hid hv
 have HA := Lib.hid ha
 have HB := Lib.hid hb
 obtain ⟨hlen, hcap, hmax⟩ := hv.lens
 have HL := Lib.hid hlen
 have hmx' : len ≤ 1000000 := by omega
 clear HG HN hv ha hb hlen
 go_enter Tryz.func125, Tryz.ntmps125
 go_wp2_with fail
 go_region_law (refine step_append_uses rfl (.tmp 59) (.tmp 61) rfl #[.int .i64 17, .int .i64 d, .int .i64 a, .int .i64 b, .slice o len cap] B _hB a d rfl l rfl o len cap rfl HV hmx ?_; intro v' w2 HR HBE x1)
 all_goals go_wp2_with fail
 all_goals go_ret2
 all_goals exact ⟨_, rfl, rowInts (l := [a] ++ l) (by assumption : Hid _).out (by intro x hx; rcases List.mem_cons.1 hx with rfl | h; exact HA.out; exact HV.out.i64 x h), (by assumption : Hid (Below w.heap.size w _)).out⟩
theorem uses_18 (d a b : Int) (l : List Int) (o : Option Addr) (len cap : Nat) (B : Nat) (w : World) (ha : I64 a) (hb : I64 b) (hv : SlC w B 1 IntR l (.slice o len cap)) (_hB : B ≤ w.heap.size) (hmx : l.length ≤ 1000000) :
  Calls Tryz.prog 125 #[.agg #[.int .i64 18, .int .i64 d, .int .i64 a, .int .i64 b, .slice o len cap]] w (NamedPost ⟨18, d, a, b, l⟩ w) := by
 have HG : Unt.gives ⟨18, d, a, b, l⟩ = d := by simp [Unt.gives]
 have HN : Unt.named ⟨18, d, a, b, l⟩ = b :: l := by simp [Unt.named]
 unfold NamedPost
 rw [HG, HN]
 have HV := Lib.hid hv
 have HA := Lib.hid ha
 have HB := Lib.hid hb
 obtain ⟨hlen, hcap, hmax⟩ := hv.lens
 have HL := Lib.hid hlen
 have hmx' : len ≤ 1000000 := by omega
 clear HG HN hv ha hb hlen
 go_enter Tryz.func125, Tryz.ntmps125
 go_wp2_with fail
 go_region_law (refine step_append_uses rfl (.tmp 69) (.tmp 71) rfl #[.int .i64 18, .int .i64 d, .int .i64 a, .int .i64 b, .slice o len cap] B _hB b d rfl l rfl o len cap rfl HV hmx ?_; intro v' w2 HR HBE x1)
 all_goals go_wp2_with fail
 all_goals go_ret2
 all_goals exact ⟨_, rfl, rowInts (l := [b] ++ l) (by assumption : Hid _).out (by intro x hx; rcases List.mem_cons.1 hx with rfl | h; exact HB.out; exact HV.out.i64 x h), (by assumption : Hid (Below w.heap.size w _)).out⟩
theorem uses_19 (d a b : Int) (l : List Int) (o : Option Addr) (len cap : Nat) (B : Nat) (w : World) (ha : I64 a) (hb : I64 b) (hv : SlC w B 1 IntR l (.slice o len cap)) (_hB : B ≤ w.heap.size) (hmx : l.length ≤ 1000000) :
  Calls Tryz.prog 125 #[.agg #[.int .i64 19, .int .i64 d, .int .i64 a, .int .i64 b, .slice o len cap]] w (NamedPost ⟨19, d, a, b, l⟩ w) := by
 have HG : Unt.gives ⟨19, d, a, b, l⟩ = -1 := by simp [Unt.gives]
 have HN : Unt.named ⟨19, d, a, b, l⟩ = a :: l := by simp [Unt.named]
 unfold NamedPost
 rw [HG, HN]
 have HV := Lib.hid hv
 have HA := Lib.hid ha
 have HB := Lib.hid hb
 obtain ⟨hlen, hcap, hmax⟩ := hv.lens
 have HL := Lib.hid hlen
 have hmx' : len ≤ 1000000 := by omega
 clear HG HN hv ha hb hlen
 go_enter Tryz.func125, Tryz.ntmps125
 have HO := Lib.hid (ownsRow_new (W := (w.alloc (.cells #[.int .i64 19, .int .i64 d, .int .i64 a, .int .i64 b, .slice o len cap] 34))) (b := w.heap.size + 1) (base := w.heap.size) (by simp) (by omega) 3 1 1 [.int .i64 a] rfl (by unfold maxLen; omega))
 have HS := Lib.hid (show SlC ((w.alloc (.cells #[.int .i64 19, .int .i64 d, .int .i64 a, .int .i64 b, .slice o len cap] 34)).alloc (.cells [.int .i64 a].toArray 3)) B 1 IntR l (.slice o len cap) from HV.out.kept (((Below.one w _).trans ((Below.one _ _).mono (by simp))).mono _hB) fun _ _ _ h => h)
 go_wp2_with (at_builtin; refine wpList_append_ints rfl (.tmp 37) (.tmp 39) rfl w.heap.size B (.slice (some ⟨w.heap.size + 1, 0, none⟩) 1 1) [a] l rfl HO.out o len cap rfl HS.out (by have := HL.out; simp; omega) (by simp; omega) ?_)
 intro v' w2 hown hgrow
 have HR := Lib.hid hown
 have HBE := Lib.hid (show Below w.heap.size w w2 from ((Below.one w _).trans ((Below.one _ _).mono (by simp))).grown hgrow (by simp; omega) (fun g hg => by simp [Value.ownBlock] at hg; omega))
 have bx : BoxL w2 w.heap.size 34 [.int .i64 19, .int .i64 d, .int .i64 a, .int .i64 b, .slice o len cap] := (hgrow.block _ (by simp; omega) (by simp [Value.ownBlock])).trans ((BoxL.new rfl _ _).alloc _)
 have x0 := bx.cell 0 rfl
 have x1 := bx.cell 1 rfl
 clear hown hgrow bx
 go_wp2_with fail
 go_ret2
 exact ⟨_, rfl, rowInts (l := [a] ++ l) HR.out (by intro x hx; rcases List.mem_cons.1 hx with rfl | h; exact HA.out; exact HV.out.i64 x h), HBE.out⟩
theorem uses_20 (d a b : Int) (l : List Int) (o : Option Addr) (len cap : Nat) (B : Nat) (w : World) (ha : I64 a) (hb : I64 b) (hv : SlC w B 1 IntR l (.slice o len cap)) (_hB : B ≤ w.heap.size) (hmx : l.length ≤ 1000000) :
  Calls Tryz.prog 125 #[.agg #[.int .i64 20, .int .i64 d, .int .i64 a, .int .i64 b, .slice o len cap]] w (NamedPost ⟨20, d, a, b, l⟩ w) := by
 have HG : Unt.gives ⟨20, d, a, b, l⟩ = -1 := by simp [Unt.gives]
 have HN : Unt.named ⟨20, d, a, b, l⟩ = b :: l := by simp [Unt.named]
 unfold NamedPost
 rw [HG, HN]
 have HV := Lib.hid hv
 have HA := Lib.hid ha
 have HB := Lib.hid hb
 obtain ⟨hlen, hcap, hmax⟩ := hv.lens
 have HL := Lib.hid hlen
 have hmx' : len ≤ 1000000 := by omega
 clear HG HN hv ha hb hlen
 go_enter Tryz.func125, Tryz.ntmps125
 have HO := Lib.hid (ownsRow_new (W := (w.alloc (.cells #[.int .i64 20, .int .i64 d, .int .i64 a, .int .i64 b, .slice o len cap] 34))) (b := w.heap.size + 1) (base := w.heap.size) (by simp) (by omega) 3 1 1 [.int .i64 b] rfl (by unfold maxLen; omega))
 have HS := Lib.hid (show SlC ((w.alloc (.cells #[.int .i64 20, .int .i64 d, .int .i64 a, .int .i64 b, .slice o len cap] 34)).alloc (.cells [.int .i64 b].toArray 3)) B 1 IntR l (.slice o len cap) from HV.out.kept (((Below.one w _).trans ((Below.one _ _).mono (by simp))).mono _hB) fun _ _ _ h => h)
 go_wp2_with (at_builtin; refine wpList_append_ints rfl (.tmp 79) (.tmp 81) rfl w.heap.size B (.slice (some ⟨w.heap.size + 1, 0, none⟩) 1 1) [b] l rfl HO.out o len cap rfl HS.out (by have := HL.out; simp; omega) (by simp; omega) ?_)
 intro v' w2 hown hgrow
 have HR := Lib.hid hown
 have HBE := Lib.hid (show Below w.heap.size w w2 from ((Below.one w _).trans ((Below.one _ _).mono (by simp))).grown hgrow (by simp; omega) (fun g hg => by simp [Value.ownBlock] at hg; omega))
 have bx : BoxL w2 w.heap.size 34 [.int .i64 20, .int .i64 d, .int .i64 a, .int .i64 b, .slice o len cap] := (hgrow.block _ (by simp; omega) (by simp [Value.ownBlock])).trans ((BoxL.new rfl _ _).alloc _)
 have x0 := bx.cell 0 rfl
 have x1 := bx.cell 1 rfl
 clear hown hgrow bx
 go_wp2_with fail
 go_ret2
 exact ⟨_, rfl, rowInts (l := [b] ++ l) HR.out (by intro x hx; rcases List.mem_cons.1 hx with rfl | h; exact HB.out; exact HV.out.i64 x h), HBE.out⟩
theorem uses_21 (d a b : Int) (l : List Int) (o : Option Addr) (len cap : Nat) (B : Nat) (w : World) (ha : I64 a) (hb : I64 b) (hv : SlC w B 1 IntR l (.slice o len cap)) (_hB : B ≤ w.heap.size) (hmx : l.length ≤ 1000000) :
  Calls Tryz.prog 125 #[.agg #[.int .i64 21, .int .i64 d, .int .i64 a, .int .i64 b, .slice o len cap]] w (NamedPost ⟨21, d, a, b, l⟩ w) := by
 have HG : Unt.gives ⟨21, d, a, b, l⟩ = -1 := by simp [Unt.gives]
 have HN : Unt.named ⟨21, d, a, b, l⟩ = l := by simp [Unt.named]
 unfold NamedPost
 rw [HG, HN]
 have HV := Lib.hid hv
 have HA := Lib.hid ha
 have HB := Lib.hid hb
 obtain ⟨hlen, hcap, hmax⟩ := hv.lens
 have HL := Lib.hid hlen
 have hmx' : len ≤ 1000000 := by omega
 clear HG HN hv ha hb hlen
 go_enter Tryz.func125, Tryz.ntmps125
 go_wp2_with fail
 go_ret2
 exact ⟨_, rfl, ((HV.out.kept ((Below.one w (.cells #[.int .i64 21, .int .i64 d, .int .i64 a, .int .i64 b, .slice o len cap] 34)).mono _hB) fun _ _ _ h => h).wider (by simp; omega)), (Below.one _ _)⟩
theorem uses_22 (d a b : Int) (l : List Int) (o : Option Addr) (len cap : Nat) (B : Nat) (w : World) (ha : I64 a) (hb : I64 b) (hv : SlC w B 1 IntR l (.slice o len cap)) (_hB : B ≤ w.heap.size) (hmx : l.length ≤ 1000000) :
  Calls Tryz.prog 125 #[.agg #[.int .i64 22, .int .i64 d, .int .i64 a, .int .i64 b, .slice o len cap]] w (NamedPost ⟨22, d, a, b, l⟩ w) := by
 have HG : Unt.gives ⟨22, d, a, b, l⟩ = -1 := by simp [Unt.gives]
 have HN : Unt.named ⟨22, d, a, b, l⟩ = [a] := by simp [Unt.named]
 unfold NamedPost
 rw [HG, HN]
 have HV := Lib.hid hv
 have HA := Lib.hid ha
 have HB := Lib.hid hb
 obtain ⟨hlen, hcap, hmax⟩ := hv.lens
 have HL := Lib.hid hlen
 have hmx' : len ≤ 1000000 := by omega
 clear HG HN hv ha hb hlen
 go_enter Tryz.func125, Tryz.ntmps125
 go_wp2_with fail
 go_ret2
 exact ⟨_, rfl, (intsNew (W := (w.alloc (.cells #[.int .i64 22, .int .i64 d, .int .i64 a, .int .i64 b, .slice o len cap] 34))) (B := ((w.alloc (.cells #[.int .i64 22, .int .i64 d, .int .i64 a, .int .i64 b, .slice o len cap] 34)).alloc (.cells #[.int .i64 a] 3)).heap.size) (by simp) (by simp) 3 [a] (by simp [HA.out]) 1 rfl (by omega)), ((Below.one w _).trans ((Below.one _ _).mono (by simp)))⟩
theorem uses_any (x : Ins) (c0 c1 c2 c3 c4 : Value) (B : Nat) (w : World) (hx : InsR w B x [c0, c1, c2, c3, c4]) (hB : B ≤ w.heap.size) (hmx : x.l.length ≤ 1000000) (h0 : 0 ≤ x.op) (h1 : x.op ≤ 22) :
  Calls Tryz.prog 125 #[.agg #[c0, c1, c2, c3, c4]] w (NamedPost x w) := by
 obtain ⟨op, d, a, b, l⟩ := x
 obtain ⟨sl, he, _, _, ha, hb, hv⟩ := hx
 simp only [List.cons.injEq, and_true] at he
 obtain ⟨rfl, rfl, rfl, rfl, rfl⟩ := he
 obtain ⟨o, len, cap, rfl⟩ := hv.form
 dsimp only at ha hb hv hmx h0 h1
 obtain ⟨n, rfl⟩ : ∃ n : Nat, op = n := ⟨op.toNat, by omega⟩
 have hn : n ≤ 22 := by omega
 clear h0 h1
 match n, hn with
 | 0, _ => exact uses_0 d a b l o len cap B w ha hb hv hB hmx
 | 1, _ => exact uses_1 d a b l o len cap B w ha hb hv hB hmx
 | 2, _ => exact uses_2 d a b l o len cap B w ha hb hv hB hmx
 | 3, _ => exact uses_3 d a b l o len cap B w ha hb hv hB hmx
 | 4, _ => exact uses_4 d a b l o len cap B w ha hb hv hB hmx
 | 5, _ => exact uses_5 d a b l o len cap B w ha hb hv hB hmx
 | 6, _ => exact uses_6 d a b l o len cap B w ha hb hv hB hmx
 | 7, _ => exact uses_7 d a b l o len cap B w ha hb hv hB hmx
 | 8, _ => exact uses_8 d a b l o len cap B w ha hb hv hB hmx
 | 9, _ => exact uses_9 d a b l o len cap B w ha hb hv hB hmx
 | 10, _ => exact uses_10 d a b l o len cap B w ha hb hv hB hmx
 | 11, _ => exact uses_11 d a b l o len cap B w ha hb hv hB hmx
 | 12, _ => exact uses_12 d a b l o len cap B w ha hb hv hB hmx
 | 13, _ => exact uses_13 d a b l o len cap B w ha hb hv hB hmx
 | 14, _ => exact uses_14 d a b l o len cap B w ha hb hv hB hmx
 | 15, _ => exact uses_15 d a b l o len cap B w ha hb hv hB hmx
 | 16, _ => exact uses_16 d a b l o len cap B w ha hb hv hB hmx
 | 17, _ => exact uses_17 d a b l o len cap B w ha hb hv hB hmx
 | 18, _ => exact uses_18 d a b l o len cap B w ha hb hv hB hmx
 | 19, _ => exact uses_19 d a b l o len cap B w ha hb hv hB hmx
 | 20, _ => exact uses_20 d a b l o len cap B w ha hb hv hB hmx
 | 21, _ => exact uses_21 d a b l o len cap B w ha hb hv hB hmx
 | 22, _ => exact uses_22 d a b l o len cap B w ha hb hv hB hmx
 | n + 23, h => omega
end
section
open Go.RowKit
def goesL (x : Ins) (k : Int) : List Int := if x.op = 15 then [x.a] else if x.op = 16 then [k + 1, x.b] else if 19 ≤ x.op then [] else [k + 1]
theorem lgoes_any (op d a b : Int) (l : List Int) (sl : Value) (hsl : ∃ o len cap, sl = .slice o len cap) (k : Nat) (w : World) (ha : I64 a) (hb : I64 b) (hk : k ≤ 100000) :
  Calls Tryz.prog 127 #[.agg #[.int .i64 op, .int .i64 d, .int .i64 a, .int .i64 b, sl], .int .i64 k] w fun e w' => ∃ v, e = .returned v ∧ SlC w' w'.heap.size 1 IntR (goesL ⟨op, d, a, b, l⟩ k) v ∧ Below w.heap.size w w' := by
 obtain ⟨o, len, cap, rfl⟩ := hsl
 have HA := Lib.hid ha
 have HB := Lib.hid hb
 have hk64 : I64 ((k : Int) + 1) := ⟨by omega, by omega⟩
 have HK := Lib.hid hk64
 clear ha hb hk64
 by_cases h15 : op = 15
 ·subst h15
  have HG := Lib.hid (show goesL ⟨15, d, a, b, l⟩ k = [a] from rfl)
  rw [HG.out]
  go_enter Tryz.func127, Tryz.ntmps127
  go_wp2_with fail
  go_ret
  exact ⟨_, rfl, intsNew (l := [a]) (by simp) (by simp) 3 (by simp [HA.out]) 1 rfl (by omega), (Below.one _ _).trans ((Below.one _ _).mono (by simp))⟩
 have f15 : (op == 15) = false := by simpa using h15
 by_cases h16 : op = 16
 ·subst h16
  have HG := Lib.hid (show goesL ⟨16, d, a, b, l⟩ k = [(k : Int) + 1, b] from rfl)
  rw [HG.out]
  go_enter Tryz.func127, Tryz.ntmps127
  go_wp2_with fail
  go_ret
  exact ⟨_, rfl, intsNew (l := [(k : Int) + 1, b]) (by simp) (by simp) 3 (by simp [HB.out, HK.out]) 2 rfl (by omega), (Below.one _ _).trans ((Below.one _ _).mono (by simp))⟩
 have f16 : (op == 16) = false := by simpa using h16
 by_cases h19 : 19 ≤ op
 ·have HG := Lib.hid (show goesL ⟨op, d, a, b, l⟩ k = [] from by simp [goesL, h15, h16, h19])
  rw [HG.out]
  have f19 : decide (19 ≤ op) = true := decide_eq_true h19
  go_enter Tryz.func127, Tryz.ntmps127
  go_wp2_with fail
  go_ret
  exact ⟨_, rfl, ⟨none, 0, 0, rfl, rfl, by omega, by omega, rfl, rfl⟩, Below.one _ _⟩
 ·have HG := Lib.hid (show goesL ⟨op, d, a, b, l⟩ k = [(k : Int) + 1] from by simp [goesL, h15, h16, h19])
  rw [HG.out]
  have f19 : decide (19 ≤ op) = false := decide_eq_false h19
  go_enter Tryz.func127, Tryz.ntmps127
  go_wp2_with fail
  go_ret
  exact ⟨_, rfl, intsNew (l := [(k : Int) + 1]) (by simp) (by simp) 3 (by simp [HK.out]) 1 rfl (by omega), (Below.one _ _).trans ((Below.one _ _).mono (by simp))⟩
end
end Go.Proofs.YtigkhmppnnljiaaGreatDoor

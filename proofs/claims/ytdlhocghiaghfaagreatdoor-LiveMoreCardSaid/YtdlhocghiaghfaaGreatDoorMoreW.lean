/-
  One more use (the law LiveMore), in plain Lean.
-/
import Derived.Test.YtdlhocghiaghfaaGreatDoorLives
import Derived.Test.YtdlhocghiaghfaaGreatDoorLawsL
import Derived.Test.YtdlhocghiaghfaaGreatDoorRNamed
import Derived.Test.YtdlhocghiaghfaaGreatDoorSpells
import Derived.Deep.DeepCutAuto
namespace Go.Proofs.YtdlhocghiaghfaaGreatDoor
namespace Live
open Unt Peep
/-- An instruction with one more use. -/
def moreI (x : Ins) (r : Int) : Ins := ⟨x.op, x.d, x.a, x.b, x.l ++ [r]⟩
/-- Instructions, one of them with one more use. -/
def moreC (code : List Ins) (k : Nat) (r : Int) : List Ins := match code[k]? with | some x => code.set k (moreI x r) | none => code
theorem moreI_named {x : Ins} {r : Int} (h : x.op = 9 ∨ x.op = 7 ∨ x.op = 17) : ∀ y ∈ named x, y ∈ named (moreI x r) := by
  intro y hy
  rcases h with h | h | h <;> simp only [named, moreI, h] at hy ⊢ <;> simp at hy ⊢
  · exact .inl hy
  · exact .inl hy
  · rcases hy with hy | hy
    · exact .inl hy
    · exact .inr (.inl hy)
theorem moreC_at {code : List Ins} {k : Nat} {r : Int} {x : Ins} (hx : code[k]? = some x) : moreC code k r = code.set k (moreI x r) := by rw [moreC, hx]
theorem moreC_length (code : List Ins) (k : Nat) (r : Int) : (moreC code k r).length = code.length := by
  unfold moreC; split <;> simp
theorem moreC_need {code : List Ins} {k : Nat} {r r' : Int} {x : Ins} (hx : code[k]? = some x) (h : x.op = 9 ∨ x.op = 7 ∨ x.op = 17) {t : Nat} (hn : Need code r' t) : Need (moreC code k r) r' t := by
  rw [moreC_at hx]
  refine hn.more fun i y hy => ?_
  by_cases e : k = i
  · subst e
    obtain rfl := Option.some.inj (hx.symm.trans hy)
    refine ⟨moreI x r, ?_, rfl, rfl, moreI_named h⟩
    rw [List.getElem?_set_self (List.getElem?_eq_some_iff.1 hx).1]
  · exact ⟨y, by rw [List.getElem?_set_ne e]; exact hy, rfl, rfl, fun _ h => h⟩
theorem moreC_after {code : List Ins} {R k : Nat} {r : Int} {x : Ins} (hx : code[k]? = some x) (h : x.op = 9 ∨ x.op = 7 ∨ x.op = 17) (t : Nat) : ∀ a ∈ after code R t, a ∈ after (moreC code k r) R t := by
  intro a ha
  unfold after at ha ⊢
  cases hy : code[t]? with
  | none =>
    rw [hy] at ha
    have ha : a ∈ live code R [] := ha
    rw [mem_live] at ha
    obtain ⟨_, j, hj, _⟩ := ha
    simp at hj
  | some y =>
    rw [hy] at ha
    have ha : a ∈ live code R (succs y t) := ha
    obtain ⟨y', hy', hs⟩ : ∃ y', (moreC code k r)[t]? = some y' ∧ succs y' t = succs y t := by
      rw [moreC_at hx]
      by_cases e : k = t
      · subst e
        obtain rfl := Option.some.inj (hx.symm.trans hy)
        exact ⟨moreI x r, by rw [List.getElem?_set_self (List.getElem?_eq_some_iff.1 hx).1], rfl⟩
      · exact ⟨y, by rw [List.getElem?_set_ne e]; exact hy, rfl⟩
    rw [hy']
    show a ∈ live (moreC code k r) R (succs y' t)
    rw [mem_live] at ha ⊢
    obtain ⟨h1, j, hj, hn⟩ := ha
    exact ⟨h1, j, by rw [hs]; exact hj, moreC_need hx h hn⟩
theorem moreC_begin {code : List Ins} {R k : Nat} {r : Int} {x : Ins} (hx : code[k]? = some x) (h : x.op = 9 ∨ x.op = 7 ∨ x.op = 17) : ∀ a ∈ begin' code R, a ∈ begin' (moreC code k r) R := by
  intro a ha
  unfold begin' at ha ⊢
  rw [mem_live] at ha ⊢
  obtain ⟨h1, j, hj, hn⟩ := ha
  exact ⟨h1, j, hj, moreC_need hx h hn⟩
theorem moreI_fits {x : Ins} {r regs nc np nk : Int} (h : x.op = 9 ∨ x.op = 7 ∨ x.op = 17) (hr : 0 ≤ r ∧ r < regs) (hf : fits x regs nc np nk = true) : fits (moreI x r) regs nc np nk = true := by
  have hp : pL x.op = true := by rcases h with h | h | h <;> rw [h] <;> rfl
  simp only [fits, hp, Bool.true_or, Bool.true_and, Bool.and_eq_true] at hf
  obtain ⟨h0, h1, h2, h3, h4, h5⟩ := hf
  have hall : (moreI x r).l.all (below · regs) = true := by
    show (x.l ++ [r]).all (below · regs) = true
    rw [List.all_append, h4]
    simp [below]; omega
  have ht : tailOk (moreI x r) nc np nk = true := h5
  simp only [fits, show pL (moreI x r).op = true from hp, Bool.true_or, Bool.true_and, Bool.and_eq_true]
  exact ⟨h0, h1, h2, h3, hall, ht⟩
theorem procsB_set {nk np : Int} : ∀ {l : List Proc} {all : Int} {i : Nat} {p q : Proc}, procsB nk np l all = true → l[i]? = some p → q.code.length = p.code.length → headB q = true → lastB (lastOp q.code) = true → (∀ x ∈ q.code, fits x q.regs q.code.length np nk = true) → procsB nk np (l.set i q) all = true
  | [], _, _, _, _, _, hi, _, _, _, _ => by simp at hi
  | a :: l, all, 0, p, q, h, hi, hlen, hh, hl, hf => by
    obtain rfl : a = p := by simpa using hi
    simp only [procsB, Bool.and_eq_true] at h
    simp only [List.set_cons_zero, procsB, Bool.and_eq_true, hlen]
    exact ⟨hh, h.2.1, hl, List.all_eq_true.2 (fun x hx => by have := hf x hx; rw [hlen] at this; exact this), h.2.2.2.2⟩
  | a :: l, all, i + 1, p, q, h, hi, hlen, hh, hl, hf => by
    simp only [procsB, Bool.and_eq_true] at h
    simp only [List.set_cons_succ, procsB, Bool.and_eq_true]
    exact ⟨h.1, h.2.1, h.2.2.1, h.2.2.2.1, procsB_set h.2.2.2.2 (by simpa using hi) hlen hh hl hf⟩
theorem moreC_last {code : List Ins} {k : Nat} {r : Int} : lastOp (moreC code k r) = lastOp code := by
  unfold moreC
  cases hx : code[k]? with
  | none => rfl
  | some x =>
    show lastOp (code.set k (moreI x r)) = lastOp code
    unfold lastOp
    rw [List.getLast?_eq_getElem?, List.getLast?_eq_getElem?, List.length_set]
    by_cases e : k = code.length - 1
    · subst e
      rw [List.getElem?_set_self (List.getElem?_eq_some_iff.1 hx).1, hx]
      rfl
    · rw [List.getElem?_set_ne e]
/-- A procedure with one more use. -/
def moreP (p : Proc) (k : Nat) (r : Int) : Proc := ⟨p.args, p.rest, p.regs, moreC p.code k r, []⟩
/-- A unit, one of whose procedures has one more use. -/
def moreU (u : Unt) (i k : Nat) (r : Int) : Unt := match u.procs[i]? with | some p => ⟨u.consts, u.procs.set i (moreP p k r)⟩ | none => u
theorem moreU_at {u : Unt} {i k : Nat} {r : Int} {p : Proc} (hp : u.procs[i]? = some p) : moreU u i k r = ⟨u.consts, u.procs.set i (moreP p k r)⟩ := by rw [moreU, hp]
theorem moreU_ok {u : Unt} {i k : Nat} {r : Int} {p : Proc} {x : Ins} (hu : u.okB = true) (hp : u.procs[i]? = some p) (hx : p.code[k]? = some x) (h : x.op = 9 ∨ x.op = 7 ∨ x.op = 17) (hr : 0 ≤ r ∧ r < p.regs) : (moreU u i k r).okB = true := by
  rw [moreU_at hp]
  simp only [Unt.okB, Bool.and_eq_true] at hu ⊢
  obtain ⟨h1, h2, h3, h4⟩ := hu
  simp only [List.length_set]
  obtain ⟨g1, g2, g3⟩ := procsB_at h4 (List.mem_of_getElem? hp)
  have hlen : (moreP p k r).code.length = p.code.length := moreC_length _ _ _
  refine ⟨h1, h2, h3, procsB_set h4 hp hlen ?_ ?_ ?_⟩
  · have e : headB (moreP p k r) = headB p := by
      unfold headB
      rw [hlen]; rfl
    rw [e]; exact g1
  · show lastB (lastOp (moreC p.code k r)) = true
    rw [moreC_last]; exact g2
  · intro y hy
    rw [hlen]
    have hy : y ∈ moreC p.code k r := hy
    rw [moreC_at hx] at hy
    rcases List.mem_or_eq_of_mem_set hy with hy | rfl
    · exact g3 y hy
    · exact moreI_fits h hr (g3 x (List.mem_of_getElem? hx))
theorem moreU_short {u : Unt} {n rg : Int} {i k : Nat} {r : Int} (h : Unt.fewB u n rg = true) (hn : n ≤ 1000) : Short (moreU u i k r) := by
  simp only [Unt.fewB, Bool.and_eq_true] at h
  have hall : ∀ p ∈ u.procs, p.code.length ≤ 1000 ∧ ∀ x ∈ p.code, x.l.length ≤ 60 := fun p hp => by
    obtain ⟨h1, _, h3⟩ := fewP_at h.2.2 hp
    exact ⟨by omega, h3⟩
  intro q hq
  unfold moreU at hq
  cases hp : u.procs[i]? with
  | none =>
    rw [hp] at hq
    obtain ⟨h1, h2⟩ := hall q hq
    exact ⟨h1, fun x hx => Nat.le_trans (h2 x hx) (by decide)⟩
  | some p =>
    rw [hp] at hq
    have hq : q ∈ u.procs.set i (moreP p k r) := hq
    rcases List.mem_or_eq_of_mem_set hq with hq | rfl
    · obtain ⟨h1, h2⟩ := hall q hq
      exact ⟨h1, fun x hx => Nat.le_trans (h2 x hx) (by decide)⟩
    · obtain ⟨h1, h2⟩ := hall p (List.mem_of_getElem? hp)
      refine ⟨by rw [show (moreP p k r).code.length = p.code.length from moreC_length _ _ _]; exact h1, fun y hy => ?_⟩
      have hy : y ∈ moreC p.code k r := hy
      unfold moreC at hy
      cases hx : p.code[k]? with
      | none => rw [hx] at hy; exact Nat.le_trans (h2 y hy) (by decide)
      | some x =>
        rw [hx] at hy
        have hy : y ∈ p.code.set k (moreI x r) := hy
        rcases List.mem_or_eq_of_mem_set hy with hy | rfl
        · exact Nat.le_trans (h2 y hy) (by decide)
        · have := h2 x (List.mem_of_getElem? hx)
          show (x.l ++ [r]).length ≤ 1000
          rw [List.length_append]
          simp; omega
end Live
end Go.Proofs.YtdlhocghiaghfaaGreatDoor

namespace Go.Proofs.YtdlhocghiaghfaaGreatDoor
open Go.RowKit

theorem info_proc : (Tryz.prog.info? 31).map (fun i => (i.zero, i.size, i.bytes)) = some (some (.agg #[.int .i64 0, .bool false, .int .i64 0, .slice none 0 0, .slice none 0 0]), 5, 72) := by kernel_rfl
namespace Live
open Unt Peep
theorem begin_len (code : List Ins) (R : Nat) : (begin' code R).length ≤ R := by
  unfold begin' live
  rw [List.length_map]
  exact Nat.le_trans (List.length_filter_le _ _) (by simp)
theorem wrongE_of {u : Unt} {i : Nat} (h : u.okB = true) (hi : i < u.procs.length) : wrongE u i = 0 := by
  rw [wrongE, h, if_neg (by simp), if_neg (by omega)]
theorem okB_procs {u : Unt} (h : u.okB = true) : u.procs.length ≤ 1000 := by
  simp only [Unt.okB, Bool.and_eq_true, decide_eq_true_eq] at h
  omega
end Live
theorem ins_one {w : World} {B : Nat} : ∀ {l : List Ins} {xs : List Value}, CellsG 5 (InsR w B) l xs → ∀ u ∈ xs, u.oneCell' = true
  | [], _, h, u, hu => by rw [CellsG] at h; subst h; cases hu
  | x :: l, xs, ⟨cs, r, he, _, hx, hr⟩, u, hu => by
    subst he
    rcases List.mem_append.1 hu with h | h
    · obtain ⟨sl, rfl, _, _, _, _, hsl⟩ := hx
      obtain ⟨o, n, c, rfl⟩ := hsl.form
      simp only [List.mem_cons, List.not_mem_nil, or_false] at h
      rcases h with rfl | rfl | rfl | rfl | rfl <;> rfl
    · exact ins_one hr u h
theorem procs_one {w : World} {B : Nat} : ∀ {l : List Proc} {xs : List Value}, CellsG 5 (ProcR w B) l xs → ∀ u ∈ xs, u.oneCell' = true
  | [], _, h, u, hu => by rw [CellsG] at h; subst h; cases hu
  | x :: l, xs, ⟨cs, r, he, _, hx, hr⟩, u, hu => by
    subst he
    rcases List.mem_append.1 hu with h | h
    · obtain ⟨sl, al, rfl, _, _, hsl, hal⟩ := hx
      obtain ⟨o, n, c, rfl⟩ := hsl.form
      obtain ⟨o2, n2, c2, rfl⟩ := hal.form
      simp only [List.mem_cons, List.not_mem_nil, or_false] at h
      rcases h with rfl | rfl | rfl | rfl | rfl <;> rfl
    · exact procs_one hr u h
/-- What the operations of the first drawn region make. -/
def MoreA (H H2 ub : Nat) (cs ps : Value) (np : Nat) (news : List Value) (i : Nat) (v : Value) (W : World) : Prop := match i with
  | 0 => v = .pointer (some ⟨ub, 0, none⟩)
  | 1 => v = cs
  | 2 => ∃ b, v = .slice (some ⟨b, 0, none⟩) 0 0
  | 3 => v = .pointer (some ⟨ub, 1, none⟩)
  | 4 => v = ps
  | 5 => RowB H 31 5 np news v W
  | 6 => ∃ q, v = .agg #[cs, q] ∧ RowB H 31 5 np news q W
  | _ => ∃ b, v = .pointer (some ⟨b, 0, none⟩) ∧ H2 ≤ b ∧ BoxL W b 25 [.slice none 0 0, .slice none 0 0]
theorem moreA_kept (H H2 ub : Nat) (cs ps : Value) (np : Nat) (news : List Value) : ∀ i v A B, i < 8 → MoreA H H2 ub cs ps np news i v A → Below A.heap.size A B → MoreA H H2 ub cs ps np news i v B := by
  intro i v A B hi h hb
  match i, hi, h with
  | 0, _, h => exact h
  | 1, _, h => exact h
  | 2, _, h => exact h
  | 3, _, h => exact h
  | 4, _, h => exact h
  | 5, _, h => exact RowB.keep h hb
  | 6, _, ⟨q, h1, h2⟩ => exact ⟨q, h1, h2.keep hb⟩
  | 7, _, ⟨b, h1, h2, h3⟩ => exact ⟨b, h1, h2, h3.keep hb⟩
/-- What the operations of the second drawn region make. -/
def MoreB (H H2 pb : Nat) (x0 x1 x2 cv : Value) (m : Nat) (news : List Value) (i : Nat) (v : Value) (W : World) : Prop := match i with
  | 0 => v = .pointer (some ⟨pb, 0, none⟩)
  | 1 => v = x0
  | 2 => v = .pointer (some ⟨pb, 1, none⟩)
  | 3 => v = x1
  | 4 => v = .pointer (some ⟨pb, 2, none⟩)
  | 5 => v = x2
  | 6 => ∃ b, v = .slice (some ⟨b, 0, none⟩) 0 0
  | 7 => v = .pointer (some ⟨pb, 3, none⟩)
  | 8 => v = cv
  | 9 => RowB H 34 5 m news v W
  | 10 => ∃ q, v = .agg #[x0, x1, x2, q, .slice none 0 0] ∧ RowB H 34 5 m news q W
  | _ => ∃ b, v = .pointer (some ⟨b, 0, none⟩) ∧ H2 ≤ b ∧ BoxL W b 31 [.int .i64 0, .bool false, .int .i64 0, .slice none 0 0, .slice none 0 0]
theorem moreB_kept (H H2 pb : Nat) (x0 x1 x2 cv : Value) (m : Nat) (news : List Value) : ∀ i v A B, i < 12 → MoreB H H2 pb x0 x1 x2 cv m news i v A → Below A.heap.size A B → MoreB H H2 pb x0 x1 x2 cv m news i v B := by
  intro i v A B hi h hb
  match i, hi, h with
  | 0, _, h => exact h
  | 1, _, h => exact h
  | 2, _, h => exact h
  | 3, _, h => exact h
  | 4, _, h => exact h
  | 5, _, h => exact h
  | 6, _, h => exact h
  | 7, _, h => exact h
  | 8, _, h => exact h
  | 9, _, h => exact RowB.keep h hb
  | 10, _, ⟨q, h1, h2⟩ => exact ⟨q, h1, h2.keep hb⟩
  | 11, _, ⟨b, h1, h2, h3⟩ => exact ⟨b, h1, h2, h3.keep hb⟩
theorem lt8 {P : Nat → Prop} (h0 : P 0) (h1 : P 1) (h2 : P 2) (h3 : P 3) (h4 : P 4) (h5 : P 5) (h6 : P 6) (h7 : P 7) : ∀ i, i < 8 → P i
  | 0, _ => h0 | 1, _ => h1 | 2, _ => h2 | 3, _ => h3 | 4, _ => h4 | 5, _ => h5 | 6, _ => h6 | 7, _ => h7
theorem lt12 {P : Nat → Prop} (h0 : P 0) (h1 : P 1) (h2 : P 2) (h3 : P 3) (h4 : P 4) (h5 : P 5) (h6 : P 6) (h7 : P 7) (h8 : P 8) (h9 : P 9) (h10 : P 10) (h11 : P 11) : ∀ i, i < 12 → P i
  | 0, _ => h0 | 1, _ => h1 | 2, _ => h2 | 3, _ => h3 | 4, _ => h4 | 5, _ => h5 | 6, _ => h6 | 7, _ => h7 | 8, _ => h8 | 9, _ => h9 | 10, _ => h10 | 11, _ => h11

set_option maxHeartbeats 16000000 in
set_option maxRecDepth 100000 in
theorem liveMore_walk (u : Unt) (v : Value) (n k r : Int) (w : World) (hv : UntR w w.heap.size u v) :
    Calls Tryz.prog 10 #[v, .int .i64 n, .int .i64 k, .int .i64 r] w fun e w' => e = .returned (.bool true) ∧ Below w.heap.size w w' := by
  obtain ⟨B, hBe⟩ : ∃ B, w.heap.size = B := ⟨_, rfl⟩
  rw [hBe] at hv
  have hB : B ≤ w.heap.size := by omega
  have HBE := Lib.hid hBe
  clear hBe
  have HV := Lib.hid hv
  obtain ⟨cv, pv, rfl, hc, hp⟩ := hv
  obtain ⟨op', np, cp', rfl, hnp, hcapp, hmaxp⟩ := hp.slice
  have HCONS := Lib.hid hc
  obtain ⟨ok, nk, ck, rfl, hcx⟩ := hc
  have HP := Lib.hid hp
  have HNP := Lib.hid hnp
  clear hcx hp hnp
  have HAW := Lib.hid (fun X => awake16_any (w.alloc X))
  have BU0 := Lib.hid (BoxL.new (W := w) rfl 25 [.slice ok nk ck, .slice op' np cp'])
  go_enter Tryz.func10, Tryz.ntmps10
  go_wp2_with fail
  refine (HAW.out _).mono ?_
  rintro e w0 ⟨rfl, hb0⟩
  have HB0 := Lib.hid (one_below hb0)
  have BU1 := Lib.hid (BU0.out.keep hb0)
  have U0 := BU1.out.cell 0 rfl
  have U1 := BU1.out.cell 1 rfl
  have hul := BU1.out.lt
  have hs0 := HB0.out.size
  obtain ⟨q, hq⟩ : ∃ q, Unt.fewB u 120 120 = q := ⟨_, rfl⟩
  have HFE := Lib.hid (few16_any u _ 120 B w0 (HV.out.kept (HB0.out.mono hB)) (by omega) (by omega) (by omega) q hq)
  have HQF := Lib.hid hq
  clear hb0 hq HAW BU0
  go_wp2_with fail
  refine HFE.out.mono ?_
  rintro e w1 ⟨rfl, hb1⟩
  have HB1 := Lib.hid (Below.next HB0.out hb1)
  have BU2 := Lib.hid (BU1.out.keep hb1)
  clear hb1 HFE U0 U1 hul hs0
  cases q with
  | false =>
    go_wp2_with fail
    go_ret
    exact ⟨rfl, HB1.out⟩
  | true =>
    have U0 := BU2.out.cell 0 rfl
    have U1 := BU2.out.cell 1 rfl
    have hul := BU2.out.lt
    have HSH := Lib.hid (Live.short_of_few HQF.out (by decide))
    have hs1 := HB1.out.size
    have HAF := Lib.hid (lafter_any u _ n B w1 (HV.out.kept (HB1.out.mono hB)) (by omega) HSH.out)
    obtain ⟨E, hE⟩ : ∃ E, Live.wrongE u n = E := ⟨_, rfl⟩
    rw [hE] at HAF
    by_cases hE0 : E = 0
    · subst hE0
      obtain ⟨hok, i, p, rfl, hpi⟩ := Live.wrongE_zero hE
      have HOK := Lib.hid hok
      have HOKU := Lib.hid (Live.unit_ok hok HSH.out hpi)
      have hnp1 : np ≤ 1000 := by rw [HNP.out]; exact Live.okB_procs hok
      have hin : i < np := by rw [HNP.out]; exact (List.getElem?_eq_some_iff.1 hpi).1
      have HLL := Lib.hid (Live.afterL_len hE hpi)
      have HLG := Lib.hid (fun k (hk : k < p.code.length) => Live.afterL_get hE hpi hk)
      have HBG := Lib.hid (Live.beginL_at hE hpi)
      have HPI := Lib.hid hpi
      have hpsh := HSH.out p (List.mem_of_getElem? hpi)
      clear hE hok hpi
      obtain ⟨LL, hLL⟩ : ∃ LL, Live.afterL u (i : Int) = LL := ⟨_, rfl⟩
      obtain ⟨BL, hBL⟩ : ∃ BL, Live.beginL u (i : Int) = BL := ⟨_, rfl⟩
      rw [hLL] at HAF HLL HLG
      have HBLE := Lib.hid hBL
      rw [hBL] at HBG
      clear hLL hBL
      have fi0 : decide ((i : Int) < 0) = false := decide_eq_false (by omega)
      have fi1 : decide (np ≤ i) = false := decide_eq_false (by omega)
      go_wp2_with fail
      refine HAF.out.mono ?_
      rintro e w2 ⟨sv, rfl, hsv, hb2⟩
      obtain ⟨osv, lsv, csv, rfl⟩ := hsv.form
      have HSV := Lib.hid hsv
      have HB2 := Lib.hid (Below.next HB1.out hb2)
      have BU3 := Lib.hid (BU2.out.keep hb2)
      have HLS := Lib.hid hsv.lens.1
      have hcapv := hsv.lens.2
      clear hsv hb2 HAF U0 U1 hul hs1
      have U0 := BU3.out.cell 0 rfl
      have U1 := BU3.out.cell 1 rfl
      have hul := BU3.out.lt
      have hs2 := HB2.out.size
      have hbw : Below B w w2 := HB2.out.mono hB
      obtain ⟨b1, off1, cs, ho1, hbB, hcl, hcell, hpr⟩ := HP.out.at hbw HPI.out
      subst ho1
      match cs, hcl with
      | [d0, d1, d2, d3, d4], _ =>
        have e0 := hcell 0 _ rfl
        have e1 := hcell 1 _ rfl
        have e2 := hcell 2 _ rfl
        have e3 := hcell 3 _ rfl
        have e4 := hcell 4 _ rfl
        rw [Nat.add_zero] at e0
        have HPR := Lib.hid hpr
        obtain ⟨args, rest, regs, code, alive⟩ := p
        obtain ⟨sl, al, he, hbargs, hbregs, hsl, hal⟩ := hpr
        obtain ⟨oc, m, cc, rfl⟩ := hsl.form
        obtain ⟨oal, lal, cal, rfl⟩ := hal.form
        simp only [List.cons.injEq, and_true] at he
        obtain ⟨rfl, rfl, rfl, rfl, rfl⟩ := he
        dsimp only at hsl hpsh hbargs hbregs
        have HC := Lib.hid hsl
        have HM := Lib.hid hsl.lens.1
        have hmcap := hsl.lens.2
        have hm1 : m ≤ 1000 := by rw [hsl.lens.1]; exact hpsh.1
        have HPS := Lib.hid hpsh.2
        obtain ⟨R, hR, hR2, hco⟩ := HOKU.out
        obtain rfl : regs = (R : Int) := hR
        have HBA := Lib.hid hbargs
        have HBR := Lib.hid hbregs
        clear hco hbargs hbregs
        have hlsv : lsv = m := by rw [HLS.out, HLL.out, HM.out]
        subst hlsv
        have hbl := cell_lt e0
        clear hcell hcl hsl hal hpsh
        by_cases hk0 : k < 0
        · as_aux_lemma =>
          have fk : decide (k < 0) = true := decide_eq_true hk0
          go_wp2_with fail
          go_ret
          exact ⟨rfl, HB2.out⟩
        obtain ⟨kn, rfl⟩ : ∃ kn : Nat, k = kn := ⟨k.toNat, by omega⟩
        have fk : decide ((kn : Int) < 0) = false := decide_eq_false (by omega)
        clear hk0
        by_cases hkl : lsv ≤ kn
        · as_aux_lemma =>
          have fl : decide (lsv ≤ kn) = true := decide_eq_true hkl
          go_wp2_with fail
          go_ret
          exact ⟨rfl, HB2.out⟩
        have fl : decide (lsv ≤ kn) = false := decide_eq_false hkl
        replace hkl : kn < lsv := by omega
        by_cases hr0 : r < 0
        · as_aux_lemma =>
          have fr : decide (r < 0) = true := decide_eq_true hr0
          go_wp2_with fail
          go_ret
          exact ⟨rfl, HB2.out⟩
        obtain ⟨rn, rfl⟩ : ∃ rn : Nat, r = rn := ⟨r.toNat, by omega⟩
        have fr : decide ((rn : Int) < 0) = false := decide_eq_false (by omega)
        clear hr0
        by_cases hrR : R ≤ rn
        · as_aux_lemma =>
          have fR : decide (R ≤ rn) = true := decide_eq_true hrR
          go_wp2_with fail
          go_ret
          exact ⟨rfl, HB2.out⟩
        have fR : decide (R ≤ rn) = false := decide_eq_false hrR
        replace hrR : rn < R := by omega
        obtain ⟨x, hx⟩ : ∃ x, code[kn]? = some x := ⟨_, List.getElem?_eq_getElem (by rw [← HM.out]; exact hkl)⟩
        obtain ⟨b6, off6, cs6, ho6, hb6B, hcl6, hcell6, hins6⟩ := HC.out.at hbw hx
        subst ho6
        have HX := Lib.hid hx
        have BX := Lib.hid (BoxL.new (W := w2) rfl 31 [.int .i64 args, .bool rest, .int .i64 R, .slice (some ⟨b6, off6, none⟩) lsv cc, .slice oal lal cal])
        go_upto_region 8 with fail
        obtain ⟨W, hW⟩ : ∃ W, w2.alloc (.cells #[.int .i64 args, .bool rest, .int .i64 R, .slice (some ⟨b6, off6, none⟩) lsv cc, .slice oal lal cal] 31) = W := ⟨_, rfl⟩
        have HBX := Lib.hid (show BoxL W w2.heap.size 31 [.int .i64 args, .bool rest, .int .i64 R, .slice (some ⟨b6, off6, none⟩) lsv cc, .slice oal lal cal] from by rw [← hW]; exact BX.out)
        have HW2 := Lib.hid (show Below w2.heap.size w2 W from by rw [← hW]; exact Below.one w2 _)
        have HBU := Lib.hid (BU3.out.keep HW2.out)
        have HBW := Lib.hid (Below.next HB2.out HW2.out)
        rw [hW]
        clear hW BX e0 e1 e2 e3 e4 U0 U1 hul hx
        match cs6, hcl6 with
        | [t0, t1, t2, t3, t4], _ =>
          have e0 := keepC HW2.out (hcell6 0 _ rfl)
          rw [Nat.add_zero] at e0
          obtain ⟨op, d, xa, xb, l⟩ := x
          obtain ⟨sl, he, _, _, _, _, _⟩ := hins6
          simp only [List.cons.injEq, and_true] at he
          obtain ⟨rfl, _⟩ := he
          clear hcell6 hcl6
          have X3 := HBX.out.cell 3 rfl
          have hxl := HBX.out.lt
          obtain ⟨q, hq⟩ : ∃ q, (decide (op ≠ 9) && (decide (op ≠ 7) && decide (op ≠ 17))) = q := ⟨_, rfl⟩
          have HQ := Lib.hid hq
          clear hq
          go_cut [114] (fun c wx => c = .bool q ∧ W = wx)
          case first => as_aux_lemma =>
            by_cases h9 : op = 9
            · subst h9
              obtain rfl : false = q := by rw [← HQ.out]; rfl
              go_wp2_with fail
              go_meet
              exact ⟨rfl, rfl⟩
            have f9 : (op != 9) = true := by simpa using h9
            by_cases h7 : op = 7
            · subst h7
              obtain rfl : false = q := by rw [← HQ.out]; rfl
              go_wp2_with fail
              go_meet
              exact ⟨rfl, rfl⟩
            have f7 : (op != 7) = true := by simpa using h7
            by_cases h17 : op = 17
            · subst h17
              obtain rfl : false = q := by rw [← HQ.out]; rfl
              go_wp2_with fail
              go_meet
              exact ⟨rfl, rfl⟩
            · have f17 : (op != 17) = true := by simpa using h17
              obtain rfl : true = q := by rw [← HQ.out]; simp [h9, h7, h17]
              go_wp2_with fail
              go_meet
              exact ⟨rfl, rfl⟩
          case rest =>
            obtain ⟨rfl, rfl⟩ := hcut
            cases q with
            | true => as_aux_lemma =>
              go_wp2_with fail
              go_ret
              exact ⟨rfl, HBW.out⟩
            | false =>
              have HOP := Lib.hid (show op = 9 ∨ op = 7 ∨ op = 17 from by
                have h := HQ.out
                simp only [Bool.and_eq_false_iff, decide_eq_false_iff_not, ne_eq, Decidable.not_not] at h
                exact h)
              clear HQ e0 X3
              go_upto_region 10 with fail
              obtain ⟨news, hnl, hnc, hnr⟩ := HP.out.news (by intro h0; rw [h0] at HNP; have := HNP.out; simp at this; omega)
              have HNL := Lib.hid hnl
              have HNC := Lib.hid hnc
              have HNR := Lib.hid hnr
              have hsW := HBW.out.size
              have hW2s := HW2.out.size
              clear hnl hnc hnr
              refine wp_region_mono 8 (MoreA w2.heap.size W.heap.size w.heap.size (.slice ok nk ck) (.slice (some ⟨b1, off1, none⟩) np cp') np news) (fun A B => Below A.heap.size A B) (by kernel_rfl) (by show monoB _ 8 226 = true; kernel_rfl) (fun h k => Below.next h k) (Below.refl _ _) (moreA_kept _ _ _ _ _ _ _) ?hops ?hend
              case hops => as_aux_lemma =>
                intro i o hi
                revert o
                revert i
                refine lt8 ?_ ?_ ?_ ?_ ?_ ?_ ?_ ?_
                · intro o ho a w1 hdf hsz hex hdep hrest
                  obtain rfl : _ = o := Option.some.inj ho
                  have hx : a.tmps.getD 4 undef = .pointer (some ⟨w.heap.size, 0, none⟩) := hrest.at 4 (by kernel_rfl)
                  exact wpList_field (v := .pointer (some ⟨w.heap.size, 0, none⟩)) rfl rfl hx (by go_simp) ⟨rfl, _, rfl, rfl, Below.refl _ _⟩
                · intro o ho a w1 hdf hsz hex hdep hrest
                  obtain rfl : _ = o := Option.some.inj ho
                  have hWx : Below W.heap.size W w1 := ((Below.refl W.heap.size W).drew).trans hex
                  have hx : a.tmps.getD 116 undef = .pointer (some ⟨w.heap.size, 0, none⟩) := dep_at hdep 0 116 (by kernel_rfl)
                  have c0 := (HBU.out.keep hWx).cell 0 rfl
                  exact wpList_load (v := .slice ok nk ck) rfl rfl hx (by go_simp) ⟨rfl, _, rfl, rfl, Below.refl _ _⟩
                · intro o ho a w1 hdf hsz hex hdep hrest
                  obtain rfl : _ = o := Option.some.inj ho
                  exact wpList_bs0 (v := .slice (some ⟨w1.heap.size, 0, none⟩) 0 0) (w' := w1.alloc (.cells #[] 31)) rfl rfl (by go_simp) ⟨rfl, _, rfl, ⟨_, rfl⟩, Below.one _ _⟩
                · intro o ho a w1 hdf hsz hex hdep hrest
                  obtain rfl : _ = o := Option.some.inj ho
                  have hx : a.tmps.getD 4 undef = .pointer (some ⟨w.heap.size, 0, none⟩) := hrest.at 4 (by kernel_rfl)
                  exact wpList_field (v := .pointer (some ⟨w.heap.size, 1, none⟩)) rfl rfl hx (by go_simp) ⟨rfl, _, rfl, rfl, Below.refl _ _⟩
                · intro o ho a w1 hdf hsz hex hdep hrest
                  obtain rfl : _ = o := Option.some.inj ho
                  have hWx : Below W.heap.size W w1 := ((Below.refl W.heap.size W).drew).trans hex
                  have hx : a.tmps.getD 119 undef = .pointer (some ⟨w.heap.size, 1, none⟩) := dep_at hdep 3 119 (by kernel_rfl)
                  have c0 := (HBU.out.keep hWx).cell 1 rfl
                  exact wpList_load (v := .slice (some ⟨b1, off1, none⟩) np cp') rfl rfl hx (by go_simp) ⟨rfl, _, rfl, rfl, Below.refl _ _⟩
                · intro o ho a w1 hdf hsz hex hdep hrest
                  obtain rfl : _ = o := Option.some.inj ho
                  have hWx : Below W.heap.size W w1 := ((Below.refl W.heap.size W).drew).trans hex
                  obtain ⟨b, h118⟩ : ∃ b, a.tmps.getD 118 undef = .slice (some ⟨b, 0, none⟩) 0 0 := dep_at hdep 2 118 (by kernel_rfl)
                  have h120 : a.tmps.getD 120 undef = .slice (some ⟨b1, off1, none⟩) np cp' := dep_at hdep 4 120 (by kernel_rfl)
                  obtain ⟨i0, hi0, hz0, hz1, hz2⟩ := info_parts info_proc
                  refine wpList_append_grows w1 rfl (.tmp 118) (.tmp 120) 23 rfl 31 i0 (.agg #[.int .i64 0, .bool false, .int .i64 0, .slice none 0 0, .slice none 0 0]) 5 72 Tryz.underlying23 hi0 hz0 hz1 hz2 rfl (by decide) (some ⟨b, 0, none⟩) 0 0 [] h118 (fun h => by cases h) rfl (fun _ _ j u h => by simp at h) ⟨b1, off1, none⟩ np cp' news h120 HNL.out (fun j u hj => by have h := HNR.out j u hj; rw [add_none rfl] at h ⊢; exact keepC (Below.next HBW.out hWx) h) (procs_one HNC.out) (by omega) (by unfold maxLen; omega) (by omega) ?_
                  intro v' w' hown hg
                  rw [Nat.zero_add, List.nil_append] at hown
                  exact ⟨rfl, _, rfl, RowB.of_own (ownsRow_base hown (by have := hWx.size; omega)) (by omega), (Below.refl _ _).grown hg (Nat.le_refl _) (fun k h => by cases h)⟩
                · intro o ho a w1 hdf hsz hex hdep hrest
                  obtain rfl : _ = o := Option.some.inj ho
                  have h117 : a.tmps.getD 117 undef = .slice ok nk ck := dep_at hdep 1 117 (by kernel_rfl)
                  have hrow : RowB w2.heap.size 31 5 np news (a.tmps.getD 121 undef) w1 := dep_at hdep 5 121 (by kernel_rfl)
                  obtain ⟨g, cap, L, hq, hre⟩ := hrow
                  exact wpList_build2 (v := .agg #[.slice ok nk ck, .slice (some ⟨g, 0, none⟩) np cap]) rfl rfl h117 hq (by go_simp) ⟨rfl, _, rfl, ⟨_, rfl, g, cap, L, rfl, hre⟩, Below.refl _ _⟩
                · intro o ho a w1 hdf hsz hex hdep hrest
                  obtain rfl : _ = o := Option.some.inj ho
                  have hWx : Below W.heap.size W w1 := ((Below.refl W.heap.size W).drew).trans hex
                  exact wpList_alloc (v := .pointer (some ⟨w1.heap.size, 0, none⟩)) (w' := w1.alloc (.cells #[.slice none 0 0, .slice none 0 0] 25)) rfl rfl (by go_simp) ⟨rfl, _, rfl, ⟨_, rfl, by have := hWx.size; omega, BoxL.new rfl _ _⟩, Below.one _ _⟩
              case hend =>
                intro a w3 hdf hsz hex hval hrest
                have hsp := hrest.spell hsz hdf [116, 117, 118, 119, 120, 121, 122, 13] (by kernel_rfl)
                obtain ⟨b13, h13, hb13, hx13⟩ : ∃ b, a.tmps.getD 13 undef = .pointer (some ⟨b, 0, none⟩) ∧ W.heap.size ≤ b ∧ BoxL w3 b 25 [.slice none 0 0, .slice none 0 0] := hval 7 _ 13 (by omega) rfl rfl
                obtain ⟨q, h122, g1, cap1, L1, rfl, hg1, hbx1, htk1, hnc1, hcm1, hL1⟩ : ∃ q, a.tmps.getD 122 undef = .agg #[.slice ok nk ck, q] ∧ RowB w2.heap.size 31 5 np news q w3 := hval 6 _ 122 (by omega) rfl rfl
                simp only [List.foldl_cons, List.foldl_nil, h13, h122] at hsp
                generalize a.tmps.getD 116 undef = v116 at hsp
                generalize a.tmps.getD 117 undef = v117 at hsp
                generalize a.tmps.getD 118 undef = v118 at hsp
                generalize a.tmps.getD 119 undef = v119 at hsp
                generalize a.tmps.getD 120 undef = v120 at hsp
                generalize a.tmps.getD 121 undef = v121 at hsp
                have HW3 := Lib.hid (show Below W.heap.size W w3 from ((Below.refl W.heap.size W).drew).trans hex)
                have hs3 := HW3.out.size
                have hulw := HBU.out.lt
                have HXU := Lib.hid (show BoxL ((w3.setCell ⟨b13, 0, none⟩ (.slice ok nk ck)).setCell ⟨b13, 1, none⟩ (.slice (some ⟨g1, 0, none⟩) np cap1)) b13 25 [.slice ok nk ck, .slice (some ⟨g1, 0, none⟩) np cap1] from (hx13.set 0 _).set 1 _)
                have HX1 := Lib.hid (show BoxL ((w3.setCell ⟨b13, 0, none⟩ (.slice ok nk ck)).setCell ⟨b13, 1, none⟩ (.slice (some ⟨g1, 0, none⟩) np cap1)) g1 31 L1 from (hbx1.other _ _ (hbx1.ne hx13 (by decide))).other _ _ (hbx1.ne hx13 (by decide)))
                have HXP := Lib.hid (show BoxL ((w3.setCell ⟨b13, 0, none⟩ (.slice ok nk ck)).setCell ⟨b13, 1, none⟩ (.slice (some ⟨g1, 0, none⟩) np cap1)) w2.heap.size 31 [.int .i64 args, .bool rest, .int .i64 R, .slice (some ⟨b6, off6, none⟩) lsv cc, .slice oal lal cal] from ((HBX.out.keep HW3.out).other _ _ ((HBX.out.keep HW3.out).ne hx13 (by decide))).other _ _ ((HBX.out.keep HW3.out).ne hx13 (by decide)))
                have HXA := Lib.hid (show BoxL ((w3.setCell ⟨b13, 0, none⟩ (.slice ok nk ck)).setCell ⟨b13, 1, none⟩ (.slice (some ⟨g1, 0, none⟩) np cap1)) w.heap.size 25 [.slice ok nk ck, .slice (some ⟨b1, off1, none⟩) np cp'] from ((HBU.out.keep HW3.out).other _ _ (by dsimp only; omega)).other _ _ (by dsimp only; omega))
                have HBT := Lib.hid (show Below w2.heap.size w2 ((w3.setCell ⟨b13, 0, none⟩ (.slice ok nk ck)).setCell ⟨b13, 1, none⟩ (.slice (some ⟨g1, 0, none⟩) np cap1)) from ((Below.next HW2.out HW3.out).setCell (p := ⟨b13, 0, none⟩) (by dsimp only; omega) _).setCell (p := ⟨b13, 1, none⟩) (by dsimp only; omega) _)
                have HTK := Lib.hid htk1
                have HL1 := Lib.hid hL1
                have x0 := hx13.cell 0 rfl
                have x1 := hx13.cell 1 rfl
                have z0 := hx13.free 0
                have z1 := hx13.free 1
                have hl13 := hx13.lt
                clear hval hrest hdf hsz h13 h122 hex htk1 hL1 hbx1 hx13
                subst hsp
                simp only [List.drop_succ_cons, List.drop_zero]
                go_upto_region 11 with fail
                generalize (w3.setCell ⟨b13, 0, none⟩ (.slice ok nk ck)).setCell ⟨b13, 1, none⟩ (.slice (some ⟨g1, 0, none⟩) np cap1) = W4 at HXU HX1 HXP HXA HBT ⊢
                clear x0 x1 z0 z1
                have hs4 := HBT.out.size
                obtain ⟨news2, hnl2, hnc2, hnr2⟩ := HC.out.news (by intro h0; rw [h0] at HM; have := HM.out; simp at this; omega)
                have HNL2 := Lib.hid hnl2
                have HNC2 := Lib.hid hnc2
                have HNR2 := Lib.hid hnr2
                clear hnl2 hnc2 hnr2
                refine wp_region_mono 12 (MoreB w2.heap.size W4.heap.size w2.heap.size (.int .i64 args) (.bool rest) (.int .i64 R) (.slice (some ⟨b6, off6, none⟩) lsv cc) lsv news2) (fun A B => Below A.heap.size A B) (by kernel_rfl) (by show monoB _ 12 226 = true; kernel_rfl) (fun h k => Below.next h k) (Below.refl _ _) (moreB_kept _ _ _ _ _ _ _ _ _) ?hops ?hend
                case hops => as_aux_lemma =>
                  intro i o hi
                  revert o
                  revert i
                  refine lt12 ?_ ?_ ?_ ?_ ?_ ?_ ?_ ?_ ?_ ?_ ?_ ?_
                  · intro o ho a w1 hdf hsz hex hdep hrest
                    obtain rfl : _ = o := Option.some.inj ho
                    have hx : a.tmps.getD 12 undef = .pointer (some ⟨w2.heap.size, 0, none⟩) := hrest.at 12 (by kernel_rfl)
                    exact wpList_field (v := .pointer (some ⟨w2.heap.size, 0, none⟩)) rfl rfl hx (by go_simp) ⟨rfl, _, rfl, rfl, Below.refl _ _⟩
                  · intro o ho a w1 hdf hsz hex hdep hrest
                    obtain rfl : _ = o := Option.some.inj ho
                    have hWx : Below W4.heap.size W4 w1 := ((Below.refl W4.heap.size W4).drew).trans hex
                    have hx : a.tmps.getD 123 undef = .pointer (some ⟨w2.heap.size, 0, none⟩) := dep_at hdep 0 123 (by kernel_rfl)
                    have c0 := (HXP.out.keep hWx).cell 0 rfl
                    exact wpList_load (v := .int .i64 args) rfl rfl hx (by go_simp) ⟨rfl, _, rfl, rfl, Below.refl _ _⟩
                  · intro o ho a w1 hdf hsz hex hdep hrest
                    obtain rfl : _ = o := Option.some.inj ho
                    have hx : a.tmps.getD 12 undef = .pointer (some ⟨w2.heap.size, 0, none⟩) := hrest.at 12 (by kernel_rfl)
                    exact wpList_field (v := .pointer (some ⟨w2.heap.size, 1, none⟩)) rfl rfl hx (by go_simp) ⟨rfl, _, rfl, rfl, Below.refl _ _⟩
                  · intro o ho a w1 hdf hsz hex hdep hrest
                    obtain rfl : _ = o := Option.some.inj ho
                    have hWx : Below W4.heap.size W4 w1 := ((Below.refl W4.heap.size W4).drew).trans hex
                    have hx : a.tmps.getD 125 undef = .pointer (some ⟨w2.heap.size, 1, none⟩) := dep_at hdep 2 125 (by kernel_rfl)
                    have c0 := (HXP.out.keep hWx).cell 1 rfl
                    exact wpList_load (v := .bool rest) rfl rfl hx (by go_simp) ⟨rfl, _, rfl, rfl, Below.refl _ _⟩
                  · intro o ho a w1 hdf hsz hex hdep hrest
                    obtain rfl : _ = o := Option.some.inj ho
                    have hx : a.tmps.getD 12 undef = .pointer (some ⟨w2.heap.size, 0, none⟩) := hrest.at 12 (by kernel_rfl)
                    exact wpList_field (v := .pointer (some ⟨w2.heap.size, 2, none⟩)) rfl rfl hx (by go_simp) ⟨rfl, _, rfl, rfl, Below.refl _ _⟩
                  · intro o ho a w1 hdf hsz hex hdep hrest
                    obtain rfl : _ = o := Option.some.inj ho
                    have hWx : Below W4.heap.size W4 w1 := ((Below.refl W4.heap.size W4).drew).trans hex
                    have hx : a.tmps.getD 127 undef = .pointer (some ⟨w2.heap.size, 2, none⟩) := dep_at hdep 4 127 (by kernel_rfl)
                    have c0 := (HXP.out.keep hWx).cell 2 rfl
                    exact wpList_load (v := .int .i64 R) rfl rfl hx (by go_simp) ⟨rfl, _, rfl, rfl, Below.refl _ _⟩
                  · intro o ho a w1 hdf hsz hex hdep hrest
                    obtain rfl : _ = o := Option.some.inj ho
                    exact wpList_bs0 (v := .slice (some ⟨w1.heap.size, 0, none⟩) 0 0) (w' := w1.alloc (.cells #[] 34)) rfl rfl (by go_simp) ⟨rfl, _, rfl, ⟨_, rfl⟩, Below.one _ _⟩
                  · intro o ho a w1 hdf hsz hex hdep hrest
                    obtain rfl : _ = o := Option.some.inj ho
                    have hx : a.tmps.getD 12 undef = .pointer (some ⟨w2.heap.size, 0, none⟩) := hrest.at 12 (by kernel_rfl)
                    exact wpList_field (v := .pointer (some ⟨w2.heap.size, 3, none⟩)) rfl rfl hx (by go_simp) ⟨rfl, _, rfl, rfl, Below.refl _ _⟩
                  · intro o ho a w1 hdf hsz hex hdep hrest
                    obtain rfl : _ = o := Option.some.inj ho
                    have hWx : Below W4.heap.size W4 w1 := ((Below.refl W4.heap.size W4).drew).trans hex
                    have hx : a.tmps.getD 130 undef = .pointer (some ⟨w2.heap.size, 3, none⟩) := dep_at hdep 7 130 (by kernel_rfl)
                    have c0 := (HXP.out.keep hWx).cell 3 rfl
                    exact wpList_load (v := .slice (some ⟨b6, off6, none⟩) lsv cc) rfl rfl hx (by go_simp) ⟨rfl, _, rfl, rfl, Below.refl _ _⟩
                  · intro o ho a w1 hdf hsz hex hdep hrest
                    obtain rfl : _ = o := Option.some.inj ho
                    have hWx : Below W4.heap.size W4 w1 := ((Below.refl W4.heap.size W4).drew).trans hex
                    obtain ⟨b, h129⟩ : ∃ b, a.tmps.getD 129 undef = .slice (some ⟨b, 0, none⟩) 0 0 := dep_at hdep 6 129 (by kernel_rfl)
                    have h131 : a.tmps.getD 131 undef = .slice (some ⟨b6, off6, none⟩) lsv cc := dep_at hdep 8 131 (by kernel_rfl)
                    obtain ⟨i0, hi0, hz0, hz1, hz2⟩ := info_parts info_ins
                    refine wpList_append_grows w1 rfl (.tmp 129) (.tmp 131) 28 rfl 34 i0 (.agg #[.int .i64 0, .int .i64 0, .int .i64 0, .int .i64 0, .slice none 0 0]) 5 56 Tryz.underlying28 hi0 hz0 hz1 hz2 rfl (by decide) (some ⟨b, 0, none⟩) 0 0 [] h129 (fun h => by cases h) rfl (fun _ _ j u h => by simp at h) ⟨b6, off6, none⟩ lsv cc news2 h131 HNL2.out (fun j u hj => by have h := HNR2.out j u hj; rw [add_none rfl] at h ⊢; exact keepC (Below.next (Below.next HB2.out HBT.out) hWx) h) (ins_one HNC2.out) (by omega) (by unfold maxLen; omega) (by omega) ?_
                    intro v' w' hown hg
                    rw [Nat.zero_add, List.nil_append] at hown
                    exact ⟨rfl, _, rfl, RowB.of_own (ownsRow_base hown (by have := hWx.size; omega)) (by omega), (Below.refl _ _).grown hg (Nat.le_refl _) (fun k h => by cases h)⟩
                  · intro o ho a w1 hdf hsz hex hdep hrest
                    obtain rfl : _ = o := Option.some.inj ho
                    have h124 : a.tmps.getD 124 undef = .int .i64 args := dep_at hdep 1 124 (by kernel_rfl)
                    have h126 : a.tmps.getD 126 undef = .bool rest := dep_at hdep 3 126 (by kernel_rfl)
                    have h128 : a.tmps.getD 128 undef = .int .i64 R := dep_at hdep 5 128 (by kernel_rfl)
                    have hrow : RowB w2.heap.size 34 5 lsv news2 (a.tmps.getD 132 undef) w1 := dep_at hdep 9 132 (by kernel_rfl)
                    obtain ⟨g, cap, L, hq, hre⟩ := hrow
                    exact wpList_build4 (v := .agg #[.int .i64 args, .bool rest, .int .i64 R, .slice (some ⟨g, 0, none⟩) lsv cap, .slice none 0 0]) rfl rfl h124 h126 h128 hq (by go_simp) ⟨rfl, _, rfl, ⟨_, rfl, g, cap, L, rfl, hre⟩, Below.refl _ _⟩
                  · intro o ho a w1 hdf hsz hex hdep hrest
                    obtain rfl : _ = o := Option.some.inj ho
                    have hWx : Below W4.heap.size W4 w1 := ((Below.refl W4.heap.size W4).drew).trans hex
                    exact wpList_alloc (v := .pointer (some ⟨w1.heap.size, 0, none⟩)) (w' := w1.alloc (.cells #[.int .i64 0, .bool false, .int .i64 0, .slice none 0 0, .slice none 0 0] 31)) rfl rfl (by go_simp) ⟨rfl, _, rfl, ⟨_, rfl, by have := hWx.size; omega, BoxL.new rfl _ _⟩, Below.one _ _⟩
                case hend =>
                  intro a w5 hdf hsz hex hval hrest
                  have hsp := hrest.spell hsz hdf [123, 124, 125, 126, 127, 128, 129, 130, 131, 132, 133, 14] (by kernel_rfl)
                  obtain ⟨b14, h14, hb14, hx14⟩ : ∃ b, a.tmps.getD 14 undef = .pointer (some ⟨b, 0, none⟩) ∧ W4.heap.size ≤ b ∧ BoxL w5 b 31 [.int .i64 0, .bool false, .int .i64 0, .slice none 0 0, .slice none 0 0] := hval 11 _ 14 (by omega) rfl rfl
                  obtain ⟨q, h133, g2, cap2, L2, rfl, hg2, hbx2, htk2, hnc2, hcm2, hL2⟩ : ∃ q, a.tmps.getD 133 undef = .agg #[.int .i64 args, .bool rest, .int .i64 R, q, .slice none 0 0] ∧ RowB w2.heap.size 34 5 lsv news2 q w5 := hval 10 _ 133 (by omega) rfl rfl
                  simp only [List.foldl_cons, List.foldl_nil, h14, h133] at hsp
                  generalize a.tmps.getD 123 undef = v123 at hsp
                  generalize a.tmps.getD 124 undef = v124 at hsp
                  generalize a.tmps.getD 125 undef = v125 at hsp
                  generalize a.tmps.getD 126 undef = v126 at hsp
                  generalize a.tmps.getD 127 undef = v127 at hsp
                  generalize a.tmps.getD 128 undef = v128 at hsp
                  generalize a.tmps.getD 129 undef = v129 at hsp
                  generalize a.tmps.getD 130 undef = v130 at hsp
                  generalize a.tmps.getD 131 undef = v131 at hsp
                  generalize a.tmps.getD 132 undef = v132 at hsp
                  have HW5 := Lib.hid (show Below W4.heap.size W4 w5 from ((Below.refl W4.heap.size W4).drew).trans hex)
                  have hs5 := HW5.out.size
                  have hl1 := HX1.out.lt
                  have hlu := HXU.out.lt
                  have HY14 := Lib.hid (show BoxL (((((w5.setCell ⟨b14, 0, none⟩ (.int .i64 args)).setCell ⟨b14, 1, none⟩ (.bool rest)).setCell ⟨b14, 2, none⟩ (.int .i64 R)).setCell ⟨b14, 3, none⟩ (.slice (some ⟨g2, 0, none⟩) lsv cap2)).setCell ⟨b14, 4, none⟩ (.slice none 0 0)) b14 31 [.int .i64 args, .bool rest, .int .i64 R, .slice (some ⟨g2, 0, none⟩) lsv cap2, .slice none 0 0] from hx14.set5 0 (.int .i64 args) (.bool rest) (.int .i64 R) (.slice (some ⟨g2, 0, none⟩) lsv cap2) (.slice none 0 0))
                  have HYU := Lib.hid (show BoxL (((((w5.setCell ⟨b14, 0, none⟩ (.int .i64 args)).setCell ⟨b14, 1, none⟩ (.bool rest)).setCell ⟨b14, 2, none⟩ (.int .i64 R)).setCell ⟨b14, 3, none⟩ (.slice (some ⟨g2, 0, none⟩) lsv cap2)).setCell ⟨b14, 4, none⟩ (.slice none 0 0)) b13 25 [.slice ok nk ck, .slice (some ⟨g1, 0, none⟩) np cap1] from (HXU.out.keep HW5.out).other5 (by omega) 0 (.int .i64 args) (.bool rest) (.int .i64 R) (.slice (some ⟨g2, 0, none⟩) lsv cap2) (.slice none 0 0))
                  have HY1 := Lib.hid (show BoxL (((((w5.setCell ⟨b14, 0, none⟩ (.int .i64 args)).setCell ⟨b14, 1, none⟩ (.bool rest)).setCell ⟨b14, 2, none⟩ (.int .i64 R)).setCell ⟨b14, 3, none⟩ (.slice (some ⟨g2, 0, none⟩) lsv cap2)).setCell ⟨b14, 4, none⟩ (.slice none 0 0)) g1 31 L1 from (HX1.out.keep HW5.out).other5 (by omega) 0 (.int .i64 args) (.bool rest) (.int .i64 R) (.slice (some ⟨g2, 0, none⟩) lsv cap2) (.slice none 0 0))
                  have HY2 := Lib.hid (show BoxL (((((w5.setCell ⟨b14, 0, none⟩ (.int .i64 args)).setCell ⟨b14, 1, none⟩ (.bool rest)).setCell ⟨b14, 2, none⟩ (.int .i64 R)).setCell ⟨b14, 3, none⟩ (.slice (some ⟨g2, 0, none⟩) lsv cap2)).setCell ⟨b14, 4, none⟩ (.slice none 0 0)) g2 34 L2 from hbx2.other5 (hbx2.ne hx14 (by decide)) 0 (.int .i64 args) (.bool rest) (.int .i64 R) (.slice (some ⟨g2, 0, none⟩) lsv cap2) (.slice none 0 0))
                  have HYA := Lib.hid (show BoxL (((((w5.setCell ⟨b14, 0, none⟩ (.int .i64 args)).setCell ⟨b14, 1, none⟩ (.bool rest)).setCell ⟨b14, 2, none⟩ (.int .i64 R)).setCell ⟨b14, 3, none⟩ (.slice (some ⟨g2, 0, none⟩) lsv cap2)).setCell ⟨b14, 4, none⟩ (.slice none 0 0)) w.heap.size 25 [.slice ok nk ck, .slice (some ⟨b1, off1, none⟩) np cp'] from (HXA.out.keep HW5.out).other5 (by have := HXA.out.lt; omega) 0 (.int .i64 args) (.bool rest) (.int .i64 R) (.slice (some ⟨g2, 0, none⟩) lsv cap2) (.slice none 0 0))
                  have HBS := Lib.hid (show Below w2.heap.size w2 (((((w5.setCell ⟨b14, 0, none⟩ (.int .i64 args)).setCell ⟨b14, 1, none⟩ (.bool rest)).setCell ⟨b14, 2, none⟩ (.int .i64 R)).setCell ⟨b14, 3, none⟩ (.slice (some ⟨g2, 0, none⟩) lsv cap2)).setCell ⟨b14, 4, none⟩ (.slice none 0 0)) from Below.sets5 (Below.next HBT.out HW5.out) (by omega) 0 (.int .i64 args) (.bool rest) (.int .i64 R) (.slice (some ⟨g2, 0, none⟩) lsv cap2) (.slice none 0 0))
                  have HTK2 := Lib.hid htk2
                  have HL2 := Lib.hid hL2
                  have x0 := hx14.cell 0 rfl
                  have z0 := hx14.free 0
                  have x1 := hx14.cell 1 rfl
                  have z1 := hx14.free 1
                  have x2 := hx14.cell 2 rfl
                  have z2 := hx14.free 2
                  have x3 := hx14.cell 3 rfl
                  have z3 := hx14.free 3
                  have x4 := hx14.cell 4 rfl
                  have z4 := hx14.free 4
                  have hl14 := hx14.lt
                  have hg2l := HY2.out.lt
                  clear hval hrest hdf hsz h14 h133 hex htk2 hL2 hbx2 hx14
                  subst hsp
                  simp only [List.drop_succ_cons, List.drop_zero]
                  go_upto_region 12 with fail
                  generalize ((((w5.setCell ⟨b14, 0, none⟩ (.int .i64 args)).setCell ⟨b14, 1, none⟩ (.bool rest)).setCell ⟨b14, 2, none⟩ (.int .i64 R)).setCell ⟨b14, 3, none⟩ (.slice (some ⟨g2, 0, none⟩) lsv cap2)).setCell ⟨b14, 4, none⟩ (.slice none 0 0) = W6 at HY14 HYU HY1 HY2 HYA HBS hg2l ⊢
                  clear x0 x1 x2 x3 x4 z0 z1 z2 z3 z4 hl14 HXU HX1 HXP HXA HBT hl1 hlu hs5
                  obtain ⟨ys, hyl, hyr, hyc⟩ := HNC2.out.at HX.out
                  match ys, hyl with
                  | [y0, y1, y2, y3, y4], _ =>
                    obtain ⟨sl, he, hi0, hi1, hi2, hi3, hsl⟩ := hyr
                    obtain ⟨ox, lx, cx, rfl⟩ := hsl.form
                    simp only [List.cons.injEq, and_true] at he
                    obtain ⟨rfl, rfl, rfl, rfl, rfl⟩ := he
                    dsimp only at hsl hi0 hi1 hi2 hi3
                    have hlx1 : l.length ≤ 1000 := HPS.out _ (List.mem_of_getElem? HX.out)
                    have HLX := Lib.hid hsl.lens.1
                    have HSLX := Lib.hid hsl
                    have HI0 := Lib.hid hi0
                    have HI1 := Lib.hid hi1
                    have HI2 := Lib.hid hi2
                    have HI3 := Lib.hid hi3
                    have HL2C := Lib.hid (show ∀ (j : Nat) (u : Value), [Value.int .i64 op, .int .i64 d, .int .i64 xa, .int .i64 xb, .slice ox lx cx][j]? = some u → L2[kn * 5 + j]? = some u from fun j u hj => by
                      have h := hyc j u hj
                      rw [← HTK2.out, List.getElem?_take] at h
                      split at h
                      · exact h
                      · cases h)
                    clear hsl hi0 hi1 hi2 hi3 hyc
                    have r0 := HY2.out.cell _ (HL2C.out 0 _ rfl)
                    have r1 := HY2.out.cell _ (HL2C.out 1 _ rfl)
                    have r2 := HY2.out.cell _ (HL2C.out 2 _ rfl)
                    have r3 := HY2.out.cell _ (HL2C.out 3 _ rfl)
                    have r4 := HY2.out.cell _ (HL2C.out 4 _ rfl)
                    rw [Nat.add_zero] at r0
                    have p3 := HY14.out.cell 3 rfl
                    have hl14 := HY14.out.lt
                    have BX15 := Lib.hid (BoxL.new (W := W6) rfl 34 [.int .i64 op, .int .i64 d, .int .i64 xa, .int .i64 xb, .slice ox lx cx])
                    go_upto_region 13 with fail
                    obtain ⟨W7, hW7⟩ : ∃ W7, W6.alloc (.cells #[.int .i64 op, .int .i64 d, .int .i64 xa, .int .i64 xb, .slice ox lx cx] 34) = W7 := ⟨_, rfl⟩
                    have HX15 := Lib.hid (show BoxL W7 W6.heap.size 34 [.int .i64 op, .int .i64 d, .int .i64 xa, .int .i64 xb, .slice ox lx cx] from by rw [← hW7]; exact BX15.out)
                    have HW67 := Lib.hid (show Below W6.heap.size W6 W7 from by rw [← hW7]; exact Below.one W6 _)
                    have hs7 : W7.heap.size = W6.heap.size + 1 := by rw [← hW7]; simp
                    have HS7 := Lib.hid hs7
                    have hs7' : W6.heap.size < W7.heap.size := by omega
                    have hbs := HBS.out.size
                    rw [hW7]
                    clear hW7 BX15 r0 r1 r2 r3 r4 p3 hl14 hs7
                    have HO := Lib.hid (ownsRow_new (W := W7) (b := W7.heap.size) (base := W7.heap.size) rfl (Nat.le_refl _) 3 1 0 [] rfl (by unfold maxLen; omega))
                    have HS := Lib.hid (show SlC (W7.alloc (.cells [].toArray 3)) B 1 IntR l (.slice ox lx cx) from HSLX.out.kept ((Below.next HB2.out (Below.next (Below.next HBS.out HW67.out) (Below.one W7 _))).mono hB) fun _ _ _ h => h)
                    have q4 := HX15.out.cell 4 rfl
                    have hl15 := HX15.out.lt
                    go_wp2_with (at_builtin; refine wpList_append_ints rfl (.tmp 139) (.tmp 141) rfl W7.heap.size B (.slice (some ⟨W7.heap.size, 0, none⟩) 0 0) [] l rfl HO.out ox lx cx rfl HS.out (by simp; omega) (by simp) ?_)
                    intro v1 w8 hown hgrow
                    have hown : w8.ownsRow W7.heap.size 3 1 v1 l.length (l.map (Value.int .i64)) := hown
                    obtain ⟨o8, l8, c8, rfl⟩ : ∃ o' l' c', v1 = .slice o' l' c' := by
                      rcases hown.2 with ⟨h, _⟩ | ⟨g, cap, cur, h, _⟩
                      · exact ⟨_, _, _, h⟩
                      · exact ⟨_, _, _, h⟩
                    have HW78 := Lib.hid (show Below W7.heap.size W7 w8 from (Below.one W7 _).grown hgrow (by simp) (fun g hg => by simp [Value.ownBlock] at hg; omega))
                    have HO2 := Lib.hid (show (w8.alloc (.cells #[.int .i64 rn] 3)).ownsRow W7.heap.size 3 1 (.slice o8 l8 c8) l.length (l.map (Value.int .i64)) from ownsRow_keep hown (Below.one w8 _))
                    have hrn : -9223372036854775808 ≤ (rn : Int) ∧ (rn : Int) ≤ 9223372036854775807 := by omega
                    have HRN := Lib.hid hrn
                    have HS2 := Lib.hid (show SlC (w8.alloc (.cells #[.int .i64 rn] 3)) (w8.heap.size + 1) 1 IntR [(rn : Int)] (.slice (some ⟨w8.heap.size, 0, none⟩) 1 1) from intsNew rfl (by omega) 3 [(rn : Int)] (by intro x hx; simp only [List.mem_cons, List.not_mem_nil, or_false] at hx; subst hx; exact HRN.out) 1 rfl (by omega))
                    have HV1 := Lib.hid hown
                    have hs8 := HW78.out.size
                    clear hown hgrow HO HS q4 hrn
                    go_wp2_with (at_builtin; refine wpList_append_ints rfl (.tmp 142) (.tmp 144) rfl W7.heap.size (w8.heap.size + 1) (.slice o8 l8 c8) l [(rn : Int)] rfl HO2.out (some ⟨w8.heap.size, 0, none⟩) 1 1 rfl HS2.out (by simp; omega) (by simp; omega) ?_)
                    intro v2 w9 hown2 hgrow2
                    obtain ⟨o9, l9, c9, rfl⟩ : ∃ o' l' c', v2 = .slice o' l' c' := by
                      rcases hown2.2 with ⟨h, _⟩ | ⟨g, cap, cur, h, _⟩
                      · exact ⟨_, _, _, h⟩
                      · exact ⟨_, _, _, h⟩
                    have HO9 := Lib.hid (show w9.ownsRow W7.heap.size 3 1 (.slice o9 l9 c9) (l ++ [(rn : Int)]).length ((l ++ [(rn : Int)]).map (Value.int .i64)) from by simpa using hown2)
                    have HW79 := Lib.hid (show Below W7.heap.size W7 w9 from ((HW78.out.trans ((Below.one w8 (.cells #[.int .i64 rn] 3)).mono hs8))).grown hgrow2 (by simp; omega) (fun g hg => (HV1.out.lt g hg).1))
                    have HX9 := Lib.hid (HX15.out.keep HW79.out)
                    have q4 := HX9.out.cell 4 rfl
                    have q4z := HX9.out.free 4
                    have hl9 := HX9.out.lt
                    have HZ15 := Lib.hid (show BoxL (w9.setCell ⟨W6.heap.size, 4, none⟩ (.slice o9 l9 c9)) W6.heap.size 34 [.int .i64 op, .int .i64 d, .int .i64 xa, .int .i64 xb, .slice o9 l9 c9] from HX9.out.set 4 _)
                    have HW69 := Lib.hid (Below.next HW67.out (HW79.out))
                    have HZ14 := Lib.hid (show BoxL (w9.setCell ⟨W6.heap.size, 4, none⟩ (.slice o9 l9 c9)) b14 31 [.int .i64 args, .bool rest, .int .i64 R, .slice (some ⟨g2, 0, none⟩) lsv cap2, .slice none 0 0] from (HY14.out.keep HW69.out).other _ _ (by have := HY14.out.lt; dsimp only; omega))
                    have HZU := Lib.hid (show BoxL (w9.setCell ⟨W6.heap.size, 4, none⟩ (.slice o9 l9 c9)) b13 25 [.slice ok nk ck, .slice (some ⟨g1, 0, none⟩) np cap1] from (HYU.out.keep HW69.out).other _ _ (by have := HYU.out.lt; dsimp only; omega))
                    have HZ1 := Lib.hid (show BoxL (w9.setCell ⟨W6.heap.size, 4, none⟩ (.slice o9 l9 c9)) g1 31 L1 from (HY1.out.keep HW69.out).other _ _ (by have := HY1.out.lt; dsimp only; omega))
                    have HZ2 := Lib.hid (show BoxL (w9.setCell ⟨W6.heap.size, 4, none⟩ (.slice o9 l9 c9)) g2 34 L2 from (HY2.out.keep HW69.out).other _ _ (by have := HY2.out.lt; dsimp only; omega))
                    have HZA := Lib.hid (show BoxL (w9.setCell ⟨W6.heap.size, 4, none⟩ (.slice o9 l9 c9)) w.heap.size 25 [.slice ok nk ck, .slice (some ⟨b1, off1, none⟩) np cp'] from (HYA.out.keep HW69.out).other _ _ (by have := HYA.out.lt; dsimp only; omega))
                    have HZO := Lib.hid (show World.ownsRow (w9.setCell ⟨W6.heap.size, 4, none⟩ (.slice o9 l9 c9)) W7.heap.size 3 1 (.slice o9 l9 c9) (l ++ [(rn : Int)]).length ((l ++ [(rn : Int)]).map (Value.int .i64)) from ownsRow_set HO9.out ⟨W6.heap.size, 4, none⟩ (.slice o9 l9 c9) (fun g hg => by have := (HO9.out.lt g hg).1; show g ≠ W6.heap.size; omega))
                    have HZB := Lib.hid (show Below w2.heap.size w2 (w9.setCell ⟨W6.heap.size, 4, none⟩ (.slice o9 l9 c9)) from (Below.next HBS.out HW69.out).setCell (p := ⟨W6.heap.size, 4, none⟩) hbs _)
                    have hg17 : g1 < W7.heap.size := by have := HY1.out.lt; omega
                    have hg27 : g2 < W7.heap.size := by omega
                    clear hown2 hgrow2 HO2 HS2 HV1
                    go_upto_region 14 with fail
                    generalize w9.setCell ⟨W6.heap.size, 4, none⟩ (.slice o9 l9 c9) = W10 at HZ15 HZ14 HZU HZ1 HZ2 HZA HZO HZB ⊢
                    clear q4 q4z hl9 HX9 HX15 HY14 HYU HY1 HY2 HYA HBS HW67 HW78 HW79 HW69 hl15 hs7' hs8
                    have x0 := HZ15.out.cell 0 rfl
                    have x1 := HZ15.out.cell 1 rfl
                    have x2 := HZ15.out.cell 2 rfl
                    have x3 := HZ15.out.cell 3 rfl
                    have x4 := HZ15.out.cell 4 rfl
                    have p3 := HZ14.out.cell 3 rfl
                    have hl14 := HZ14.out.lt
                    have hl15 := HZ15.out.lt
                    have hl2 := HZ2.out.lt
                    have r0 := HZ2.out.cell _ (HL2C.out 0 _ rfl)
                    have z0 := HZ2.out.free (kn * 5)
                    have r1 := HZ2.out.cell _ (HL2C.out 1 _ rfl)
                    have z1 := HZ2.out.free (kn * 5 + 1)
                    have r2 := HZ2.out.cell _ (HL2C.out 2 _ rfl)
                    have z2 := HZ2.out.free (kn * 5 + 2)
                    have r3 := HZ2.out.cell _ (HL2C.out 3 _ rfl)
                    have z3 := HZ2.out.free (kn * 5 + 3)
                    have r4 := HZ2.out.cell _ (HL2C.out 4 _ rfl)
                    have z4 := HZ2.out.free (kn * 5 + 4)
                    rw [Nat.add_zero] at r0
                    have HV2 := Lib.hid (show RowB w2.heap.size 34 5 lsv (news2.take (kn * 5) ++ [.int .i64 op, .int .i64 d, .int .i64 xa, .int .i64 xb, .slice o9 l9 c9] ++ news2.drop ((kn + 1) * 5)) (.slice (some ⟨g2, 0, none⟩) lsv cap2) (((((W10.setCell ⟨g2, kn * 5, none⟩ (.int .i64 op)).setCell ⟨g2, kn * 5 + 1, none⟩ (.int .i64 d)).setCell ⟨g2, kn * 5 + 2, none⟩ (.int .i64 xa)).setCell ⟨g2, kn * 5 + 3, none⟩ (.int .i64 xb)).setCell ⟨g2, kn * 5 + 4, none⟩ (.slice o9 l9 c9)) from RowB.set5 HZ2.out HTK2.out hnc2 HL2.out hg2 hcm2 hkl (.int .i64 op) (.int .i64 d) (.int .i64 xa) (.int .i64 xb) (.slice o9 l9 c9))
                    have HV14 := Lib.hid (show BoxL (((((W10.setCell ⟨g2, kn * 5, none⟩ (.int .i64 op)).setCell ⟨g2, kn * 5 + 1, none⟩ (.int .i64 d)).setCell ⟨g2, kn * 5 + 2, none⟩ (.int .i64 xa)).setCell ⟨g2, kn * 5 + 3, none⟩ (.int .i64 xb)).setCell ⟨g2, kn * 5 + 4, none⟩ (.slice o9 l9 c9)) b14 31 [.int .i64 args, .bool rest, .int .i64 R, .slice (some ⟨g2, 0, none⟩) lsv cap2, .slice none 0 0] from HZ14.out.other5 (HZ14.out.ne HZ2.out (by decide)) (kn * 5) (.int .i64 op) (.int .i64 d) (.int .i64 xa) (.int .i64 xb) (.slice o9 l9 c9))
                    have HVU := Lib.hid (show BoxL (((((W10.setCell ⟨g2, kn * 5, none⟩ (.int .i64 op)).setCell ⟨g2, kn * 5 + 1, none⟩ (.int .i64 d)).setCell ⟨g2, kn * 5 + 2, none⟩ (.int .i64 xa)).setCell ⟨g2, kn * 5 + 3, none⟩ (.int .i64 xb)).setCell ⟨g2, kn * 5 + 4, none⟩ (.slice o9 l9 c9)) b13 25 [.slice ok nk ck, .slice (some ⟨g1, 0, none⟩) np cap1] from HZU.out.other5 (HZU.out.ne HZ2.out (by decide)) (kn * 5) (.int .i64 op) (.int .i64 d) (.int .i64 xa) (.int .i64 xb) (.slice o9 l9 c9))
                    have HV1 := Lib.hid (show BoxL (((((W10.setCell ⟨g2, kn * 5, none⟩ (.int .i64 op)).setCell ⟨g2, kn * 5 + 1, none⟩ (.int .i64 d)).setCell ⟨g2, kn * 5 + 2, none⟩ (.int .i64 xa)).setCell ⟨g2, kn * 5 + 3, none⟩ (.int .i64 xb)).setCell ⟨g2, kn * 5 + 4, none⟩ (.slice o9 l9 c9)) g1 31 L1 from HZ1.out.other5 (HZ1.out.ne HZ2.out (by decide)) (kn * 5) (.int .i64 op) (.int .i64 d) (.int .i64 xa) (.int .i64 xb) (.slice o9 l9 c9))
                    have HVA := Lib.hid (show BoxL (((((W10.setCell ⟨g2, kn * 5, none⟩ (.int .i64 op)).setCell ⟨g2, kn * 5 + 1, none⟩ (.int .i64 d)).setCell ⟨g2, kn * 5 + 2, none⟩ (.int .i64 xa)).setCell ⟨g2, kn * 5 + 3, none⟩ (.int .i64 xb)).setCell ⟨g2, kn * 5 + 4, none⟩ (.slice o9 l9 c9)) w.heap.size 25 [.slice ok nk ck, .slice (some ⟨b1, off1, none⟩) np cp'] from HZA.out.other5 (HZA.out.ne HZ2.out (by decide)) (kn * 5) (.int .i64 op) (.int .i64 d) (.int .i64 xa) (.int .i64 xb) (.slice o9 l9 c9))
                    have HVO := Lib.hid (show World.ownsRow (((((W10.setCell ⟨g2, kn * 5, none⟩ (.int .i64 op)).setCell ⟨g2, kn * 5 + 1, none⟩ (.int .i64 d)).setCell ⟨g2, kn * 5 + 2, none⟩ (.int .i64 xa)).setCell ⟨g2, kn * 5 + 3, none⟩ (.int .i64 xb)).setCell ⟨g2, kn * 5 + 4, none⟩ (.slice o9 l9 c9)) W7.heap.size 3 1 (.slice o9 l9 c9) (l ++ [(rn : Int)]).length ((l ++ [(rn : Int)]).map (Value.int .i64)) from own5 HZO.out hg27 (kn * 5) (.int .i64 op) (.int .i64 d) (.int .i64 xa) (.int .i64 xb) (.slice o9 l9 c9))
                    have HVB := Lib.hid (show Below w2.heap.size w2 (((((W10.setCell ⟨g2, kn * 5, none⟩ (.int .i64 op)).setCell ⟨g2, kn * 5 + 1, none⟩ (.int .i64 d)).setCell ⟨g2, kn * 5 + 2, none⟩ (.int .i64 xa)).setCell ⟨g2, kn * 5 + 3, none⟩ (.int .i64 xb)).setCell ⟨g2, kn * 5 + 4, none⟩ (.slice o9 l9 c9)) from Below.sets5 HZB.out hg2 (kn * 5) (.int .i64 op) (.int .i64 d) (.int .i64 xa) (.int .i64 xb) (.slice o9 l9 c9))
                    go_upto_region 15 with fail
                    generalize ((((W10.setCell ⟨g2, kn * 5, none⟩ (.int .i64 op)).setCell ⟨g2, kn * 5 + 1, none⟩ (.int .i64 d)).setCell ⟨g2, kn * 5 + 2, none⟩ (.int .i64 xa)).setCell ⟨g2, kn * 5 + 3, none⟩ (.int .i64 xb)).setCell ⟨g2, kn * 5 + 4, none⟩ (.slice o9 l9 c9) = W11 at HV2 HV14 HVU HV1 HVA HVO HVB ⊢
                    clear x0 x1 x2 x3 x4 r0 r1 r2 r3 r4 z0 z1 z2 z3 z4 p3 hl14 hl15 hl2 HZ15 HZ14 HZU HZ1 HZ2 HZA HZO HZB
                    obtain ⟨ps, hpl, hpr, hpc⟩ := HNC.out.at HPI.out
                    match ps, hpl with
                    | [p0, p1, p2, p3, p4], _ =>
                      have HL1C := Lib.hid (show ∀ (j : Nat) (u : Value), [p0, p1, p2, p3, p4][j]? = some u → L1[i * 5 + j]? = some u from fun j u hj => by
                        have h := hpc j u hj
                        rw [← HTK.out, List.getElem?_take] at h
                        split at h
                        · exact h
                        · cases h)
                      clear hpr hpc
                      have r0 := HV1.out.cell _ (HL1C.out 0 _ rfl)
                      have z0 := HV1.out.free (i * 5)
                      have r1 := HV1.out.cell _ (HL1C.out 1 _ rfl)
                      have z1 := HV1.out.free (i * 5 + 1)
                      have r2 := HV1.out.cell _ (HL1C.out 2 _ rfl)
                      have z2 := HV1.out.free (i * 5 + 2)
                      have r3 := HV1.out.cell _ (HL1C.out 3 _ rfl)
                      have z3 := HV1.out.free (i * 5 + 3)
                      have r4 := HV1.out.cell _ (HL1C.out 4 _ rfl)
                      have z4 := HV1.out.free (i * 5 + 4)
                      rw [Nat.add_zero] at r0
                      have x0 := HV14.out.cell 0 rfl
                      have x1 := HV14.out.cell 1 rfl
                      have x2 := HV14.out.cell 2 rfl
                      have x3 := HV14.out.cell 3 rfl
                      have x4 := HV14.out.cell 4 rfl
                      have u1 := HVU.out.cell 1 rfl
                      have hl14 := HV14.out.lt
                      have hlu := HVU.out.lt
                      have hl1 := HV1.out.lt
                      have HQ1 := Lib.hid (show RowB w2.heap.size 31 5 np (news.take (i * 5) ++ [.int .i64 args, .bool rest, .int .i64 R, .slice (some ⟨g2, 0, none⟩) lsv cap2, .slice none 0 0] ++ news.drop ((i + 1) * 5)) (.slice (some ⟨g1, 0, none⟩) np cap1) (((((W11.setCell ⟨g1, i * 5, none⟩ (.int .i64 args)).setCell ⟨g1, i * 5 + 1, none⟩ (.bool rest)).setCell ⟨g1, i * 5 + 2, none⟩ (.int .i64 R)).setCell ⟨g1, i * 5 + 3, none⟩ (.slice (some ⟨g2, 0, none⟩) lsv cap2)).setCell ⟨g1, i * 5 + 4, none⟩ (.slice none 0 0)) from RowB.set5 HV1.out HTK.out hnc1 HL1.out hg1 hcm1 hin (.int .i64 args) (.bool rest) (.int .i64 R) (.slice (some ⟨g2, 0, none⟩) lsv cap2) (.slice none 0 0))
                      have HQ2 := Lib.hid (show RowB w2.heap.size 34 5 lsv (news2.take (kn * 5) ++ [.int .i64 op, .int .i64 d, .int .i64 xa, .int .i64 xb, .slice o9 l9 c9] ++ news2.drop ((kn + 1) * 5)) (.slice (some ⟨g2, 0, none⟩) lsv cap2) (((((W11.setCell ⟨g1, i * 5, none⟩ (.int .i64 args)).setCell ⟨g1, i * 5 + 1, none⟩ (.bool rest)).setCell ⟨g1, i * 5 + 2, none⟩ (.int .i64 R)).setCell ⟨g1, i * 5 + 3, none⟩ (.slice (some ⟨g2, 0, none⟩) lsv cap2)).setCell ⟨g1, i * 5 + 4, none⟩ (.slice none 0 0)) from HV2.out.other5 HV1.out (by decide) (i * 5) (.int .i64 args) (.bool rest) (.int .i64 R) (.slice (some ⟨g2, 0, none⟩) lsv cap2) (.slice none 0 0))
                      have HQU := Lib.hid (show BoxL (((((W11.setCell ⟨g1, i * 5, none⟩ (.int .i64 args)).setCell ⟨g1, i * 5 + 1, none⟩ (.bool rest)).setCell ⟨g1, i * 5 + 2, none⟩ (.int .i64 R)).setCell ⟨g1, i * 5 + 3, none⟩ (.slice (some ⟨g2, 0, none⟩) lsv cap2)).setCell ⟨g1, i * 5 + 4, none⟩ (.slice none 0 0)) b13 25 [.slice ok nk ck, .slice (some ⟨g1, 0, none⟩) np cap1] from HVU.out.other5 (HVU.out.ne HV1.out (by decide)) (i * 5) (.int .i64 args) (.bool rest) (.int .i64 R) (.slice (some ⟨g2, 0, none⟩) lsv cap2) (.slice none 0 0))
                      have HQA := Lib.hid (show BoxL (((((W11.setCell ⟨g1, i * 5, none⟩ (.int .i64 args)).setCell ⟨g1, i * 5 + 1, none⟩ (.bool rest)).setCell ⟨g1, i * 5 + 2, none⟩ (.int .i64 R)).setCell ⟨g1, i * 5 + 3, none⟩ (.slice (some ⟨g2, 0, none⟩) lsv cap2)).setCell ⟨g1, i * 5 + 4, none⟩ (.slice none 0 0)) w.heap.size 25 [.slice ok nk ck, .slice (some ⟨b1, off1, none⟩) np cp'] from HVA.out.other5 (HVA.out.ne HV1.out (by decide)) (i * 5) (.int .i64 args) (.bool rest) (.int .i64 R) (.slice (some ⟨g2, 0, none⟩) lsv cap2) (.slice none 0 0))
                      have HQO := Lib.hid (show World.ownsRow (((((W11.setCell ⟨g1, i * 5, none⟩ (.int .i64 args)).setCell ⟨g1, i * 5 + 1, none⟩ (.bool rest)).setCell ⟨g1, i * 5 + 2, none⟩ (.int .i64 R)).setCell ⟨g1, i * 5 + 3, none⟩ (.slice (some ⟨g2, 0, none⟩) lsv cap2)).setCell ⟨g1, i * 5 + 4, none⟩ (.slice none 0 0)) W7.heap.size 3 1 (.slice o9 l9 c9) (l ++ [(rn : Int)]).length ((l ++ [(rn : Int)]).map (Value.int .i64)) from own5 HVO.out hg17 (i * 5) (.int .i64 args) (.bool rest) (.int .i64 R) (.slice (some ⟨g2, 0, none⟩) lsv cap2) (.slice none 0 0))
                      have HQB := Lib.hid (show Below w2.heap.size w2 (((((W11.setCell ⟨g1, i * 5, none⟩ (.int .i64 args)).setCell ⟨g1, i * 5 + 1, none⟩ (.bool rest)).setCell ⟨g1, i * 5 + 2, none⟩ (.int .i64 R)).setCell ⟨g1, i * 5 + 3, none⟩ (.slice (some ⟨g2, 0, none⟩) lsv cap2)).setCell ⟨g1, i * 5 + 4, none⟩ (.slice none 0 0)) from Below.sets5 HVB.out hg1 (i * 5) (.int .i64 args) (.bool rest) (.int .i64 R) (.slice (some ⟨g2, 0, none⟩) lsv cap2) (.slice none 0 0))
                      go_upto_region 16 with fail
                      generalize ((((W11.setCell ⟨g1, i * 5, none⟩ (.int .i64 args)).setCell ⟨g1, i * 5 + 1, none⟩ (.bool rest)).setCell ⟨g1, i * 5 + 2, none⟩ (.int .i64 R)).setCell ⟨g1, i * 5 + 3, none⟩ (.slice (some ⟨g2, 0, none⟩) lsv cap2)).setCell ⟨g1, i * 5 + 4, none⟩ (.slice none 0 0) = W12 at HQ1 HQ2 HQU HQA HQO HQB ⊢
                      clear x0 x1 x2 x3 x4 r0 r1 r2 r3 r4 z0 z1 z2 z3 z4 u1 hl14 hlu hl1 HV2 HV14 HVU HV1 HVA HVO HVB
                      have hs12 := HQB.out.size
                      have HUN := Lib.hid (show UntR W12 W12.heap.size (Live.moreU u i kn rn) (.agg #[.slice ok nk ck, .slice (some ⟨g1, 0, none⟩) np cap1]) from by
                        rw [Live.moreU_at HPI.out]
                        have hB12 : B ≤ W12.heap.size := by omega
                        have hbB12 : Below B w W12 := (Below.next HB2.out HQB.out).mono hB
                        have hcode : SlC W12 W12.heap.size 5 (InsR W12 W12.heap.size) (Live.moreC code kn rn) (.slice (some ⟨g2, 0, none⟩) lsv cap2) := by
                          rw [Live.moreC_at HX.out]
                          have hc : CellsG 5 (InsR W12 W12.heap.size) code news2 := HNC2.out.mono fun x _ cs h => (h.kept hbB12).wider hB12
                          have hnew : InsR W12 W12.heap.size (Live.moreI ⟨op, d, xa, xb, l⟩ rn) [.int .i64 op, .int .i64 d, .int .i64 xa, .int .i64 xb, .slice o9 l9 c9] := ⟨_, rfl, HI0.out, HI1.out, HI2.out, HI3.out, rowInts (l := l ++ [(rn : Int)]) HQO.out (fun y hy => by
                            rcases List.mem_append.1 hy with hy | hy
                            · exact HSLX.out.i64 y hy
                            · simp only [List.mem_cons, List.not_mem_nil, or_false] at hy; subst hy; exact HRN.out)⟩
                          refine slC_of_row (te := 34) (base := w2.heap.size) ?_ (CellsG.set rfl hnew hc (i := kn) (by rw [← HM.out]; exact hkl))
                          have ho := HQ2.out.own
                          rwa [List.length_set, ← HM.out]
                        refine ⟨_, _, rfl, (HCONS.out.kept hbB12).wider hB12, ?_⟩
                        have hc : CellsG 5 (ProcR W12 W12.heap.size) u.procs news := HNC.out.mono fun x _ cs h => (h.kept hbB12).wider hB12
                        have hnew : ProcR W12 W12.heap.size (Live.moreP ⟨args, rest, R, code, alive⟩ kn rn) [.int .i64 args, .bool rest, .int .i64 R, .slice (some ⟨g2, 0, none⟩) lsv cap2, .slice none 0 0] := ⟨_, _, rfl, HBA.out, HBR.out, hcode, none, 0, 0, rfl, rfl, by omega, by omega, rfl, rfl⟩
                        refine slC_of_row (te := 31) (base := w2.heap.size) ?_ (CellsG.set rfl hnew hc (i := i) (by rw [← HNP.out]; exact hin))
                        have ho := HQ1.out.own
                        rwa [List.length_set, ← HNP.out])
                      have HOK2 := Lib.hid (Live.moreU_ok HOK.out HPI.out HX.out HOP.out (show (0 : Int) ≤ rn ∧ (rn : Int) < R from ⟨by omega, by omega⟩))
                      have HPI2 := Lib.hid (show (Live.moreU u i kn rn).procs[i]? = some (Live.moreP ⟨args, rest, R, code, alive⟩ kn rn) from by rw [Live.moreU_at HPI.out]; exact List.getElem?_set_self (by rw [← HNP.out]; exact hin))
                      have HE2 := Lib.hid (Live.wrongE_of HOK2.out (List.getElem?_eq_some_iff.1 HPI2.out).1)
                      have HSH2 := Lib.hid (Live.moreU_short (i := i) (k := kn) (r := rn) HQF.out (by decide))
                      have HAF2 := Lib.hid (lafter_any (Live.moreU u i kn rn) _ i W12.heap.size W12 HUN.out (Nat.le_refl _) HSH2.out)
                      have HLL2 := Lib.hid (show (Live.afterL (Live.moreU u i kn rn) i).length = lsv from by rw [Live.afterL_len HE2.out HPI2.out, HM.out]; exact Live.moreC_length _ _ _)
                      have HLG2 := Lib.hid (show ∀ k', k' < lsv → (Live.afterL (Live.moreU u i kn rn) i)[k']? = some (Live.after (Live.moreC code kn rn) R k') from fun k' hk' => by
                        have h := Live.afterL_get HE2.out HPI2.out (k := k') (by show k' < (Live.moreC code kn rn).length; rw [Live.moreC_length, ← HM.out]; exact hk')
                        exact h)
                      have HBG2 := Lib.hid (show Live.beginL (Live.moreU u i kn rn) i = Live.begin' (Live.moreC code kn rn) R from Live.beginL_at HE2.out HPI2.out)
                      obtain ⟨LL2, hLL2⟩ : ∃ LL2, Live.afterL (Live.moreU u i kn rn) (i : Int) = LL2 := ⟨_, rfl⟩
                      rw [HE2.out, hLL2] at HAF2
                      rw [hLL2] at HLL2 HLG2
                      have u0 := HQU.out.cell 0 rfl
                      have u1 := HQU.out.cell 1 rfl
                      have hul := HQU.out.lt
                      clear hLL2
                      go_wp2_with fail
                      refine HAF2.out.mono ?_
                      rintro e w13 ⟨sv2, rfl, hsv2, hb13⟩
                      obtain ⟨os2, ls2, cs2, hform⟩ := hsv2.form
                      subst hform
                      have hls2 : ls2 = lsv := by rw [hsv2.lens.1, HLL2.out]
                      rw [hls2] at hsv2 ⊢
                      have HSV2 := Lib.hid hsv2
                      have hcap2 := hsv2.lens.2
                      have HW1213 := Lib.hid hb13
                      have HB13 := Lib.hid (Below.next HQB.out hb13)
                      have HQU2 := Lib.hid (HQU.out.keep hb13)
                      have HQA2 := Lib.hid (HQA.out.keep hb13)
                      have HW0 := Lib.hid (Below.refl w13.heap.size w13)
                      clear hsv2 hb13 HAF2 u0 u1 hul hls2
                      go_wp2_with fail
                      go_loopg [18] lsv (fun G ii wr => ∃ j : Nat, G = lsv - j ∧ j ≤ lsv ∧ ii = .int .i64 j ∧ Hid (Below w13.heap.size w13 wr))
                      case atStart => exact ⟨0, rfl, by omega, rfl, HW0⟩
                      case round =>
                        obtain ⟨j, rfl, hj, rfl, HWr⟩ := hrel
                        clear HW0
                        by_cases hjl : j < lsv
                        · as_aux_lemma =>
                          have H2r := Lib.hid (Below.next HB13.out HWr.out)
                          have hli : LL[j]? = some (Live.after code R j) := by
                            have h := HLG.out j (by show j < code.length; rw [← HM.out]; exact hjl)
                            rw [Int.toNat_natCast] at h
                            exact h
                          obtain ⟨b9, off9, cs9, ho9, hb9B, hcl9, hcell9, sl9, rfl, hsl9⟩ := HSV.out.at H2r.out hli
                          obtain ⟨b8, off8, cs8, ho8, hb8B, hcl8, hcell8, sl8, rfl, hsl8⟩ := HSV2.out.at HWr.out (HLG2.out j hjl)
                          subst ho9 ho8
                          have e1 := hcell9 0 _ rfl
                          have e2 := hcell8 0 _ rfl
                          rw [Nat.mul_one, Nat.add_zero] at e1 e2
                          obtain ⟨oq, lenq, cq, rfl⟩ := hsl9.form
                          obtain ⟨om, lenm, cm, rfl⟩ := hsl8.form
                          have HLQ := Lib.hid hsl9.lens.1
                          have hlqc := hsl9.lens.2
                          have HS9 := Lib.hid (hsl9.kept H2r.out fun _ _ _ h => h)
                          have HS8 := Lib.hid (hsl8.kept HWr.out fun _ _ _ h => h)
                          have E1 := Lib.hid e1
                          have E2 := Lib.hid e2
                          have hel1 := cell_lt e1
                          have hel2 := cell_lt e2
                          obtain ⟨wo, rfl⟩ : ∃ wo : World, wo = wr := ⟨_, rfl⟩
                          have HR0 := Lib.hid (Below.refl wo.heap.size wo)
                          have hlq2 : lenq ≤ 20000 := by rw [HLQ.out]; exact Nat.le_trans (Live.after_len _ _ _) hR2
                          have H2s := H2r.out.size
                          have HWs := HWr.out.size
                          clear hcell9 hcell8 hcl9 hcl8 hsl9 hsl8 hli
                          go_wp2_with fail
                          go_loopg [19] lenq (fun G ii wq => ∃ t : Nat, G = lenq - t ∧ t ≤ lenq ∧ ii = .int .i64 t ∧ Hid (Below wo.heap.size wo wq))
                          case atStart => exact ⟨0, rfl, by omega, rfl, HR0⟩
                          case round =>
                            obtain ⟨t, rfl, ht, rfl, HWq⟩ := hrel
                            clear HR0 e1 e2
                            have e1 := keepC HWq.out E1.out
                            have e2 := keepC HWq.out E2.out
                            have hqs := HWq.out.size
                            by_cases htl : t < lenq
                            · as_aux_lemma =>
                              obtain ⟨y, hy⟩ : ∃ y, (Live.after code R j)[t]? = some y := ⟨_, List.getElem?_eq_getElem (by rw [← HLQ.out]; exact htl)⟩
                              obtain ⟨b5, off5, es, ho5, hb5, hel, hecell, hei⟩ := HS9.out.at (HWq.out.mono H2s) hy
                              subst ho5
                              have g0 := hecell 0 (.int .i64 y) (by rw [hei.1]; rfl)
                              rw [Nat.mul_one, Nat.add_zero] at g0
                              have HJ := Lib.hid (fun (V : World) (hV : V = wr.drew) => has16_any (Live.after (Live.moreC code kn rn) R j) (.slice om lenm cm) y w13.heap.size V (HS8.out.kept (by rw [hV]; exact (HWq.out.mono HWs).drew) fun _ _ _ h => h) true (by rw [List.contains_iff_mem]; exact Live.moreC_after HX.out HOP.out j y (List.mem_of_getElem? hy)) (Nat.le_trans (Live.after_len _ _ _) (by omega)))
                              have hgl := cell_lt g0
                              clear hecell hei hy
                              go_upto_region 25 with fail
                              refine wp_region_quiet_class (fun V => V = wr.drew) 11 (by kernel_rfl) (by kernel_rfl) rfl ?_
                              intro T _ Wd HWd HWd2
                              have t1 := fun s => cell_qd (HWd s) e1
                              have t2 := fun s => cell_qd (HWd s) e2
                              have t3 := fun s => cell_qd (HWd s) g0
                              have HWH := Lib.hid HWd
                              clear HWd HWd2
                              simp only [List.take_succ_cons, List.take_zero, List.drop_succ_cons, List.drop_zero]
                              repeat (go_big_quiet_step (fail))
                              refine wpQuiet_nil ?_
                              intro s
                              go_wp2_with fail
                              refine (HJ.out _ (HWH.out s)).mono ?_
                              rintro e w7 ⟨rfl, hw7⟩
                              have HW7 := Lib.hid (show Below wo.heap.size wo w7 from by rw [hw7, HWH.out s]; exact HWq.out.drew)
                              clear hw7 HJ t1 t2 t3 e1 e2 g0
                              go_wp2_with fail
                              go_roundg (lenq - (t + 1))
                              case measure => omega
                              case rel => exact ⟨t + 1, rfl, by omega, by go_num, HW7⟩
                            · obtain rfl : t = lenq := by omega
                              have HWn := Lib.hid (Below.next HWr.out HWq.out)
                              go_wp2_with fail
                              go_roundg (lsv - (j + 1))
                              case measure => omega
                              case rel => exact ⟨j + 1, rfl, by omega, by go_num, HWn⟩
                        · obtain rfl : j = lsv := by omega
                          have H2r := Lib.hid (Below.next HB13.out HWr.out)
                          have hs2r := H2r.out.size
                          have HG1 := Lib.hid (lbegin_any u _ i B wr (HV.out.kept ((Below.next HB2.out H2r.out).mono hB)) (by omega) HSH.out)
                          rw [HBLE.out] at HG1
                          obtain ⟨E1, hE1⟩ : ∃ E1, Live.wrongE u i = E1 := ⟨_, rfl⟩
                          rw [hE1] at HG1
                          clear hE1
                          have HQU3 := Lib.hid (HQU2.out.keep HWr.out)
                          have a0 := (HQA2.out.keep HWr.out).cell 0 rfl
                          have a1 := (HQA2.out.keep HWr.out).cell 1 rfl
                          have hal := (HQA2.out.keep HWr.out).lt
                          have HW12r := Lib.hid (Below.next HW1213.out HWr.out)
                          go_wp2_with fail
                          refine HG1.out.mono ?_
                          rintro e w14 ⟨s3, rfl, hs3, hb14'⟩
                          obtain ⟨o3, l3, c3, rfl⟩ := hs3.form
                          have HS3 := Lib.hid hs3
                          have HL3 := Lib.hid hs3.lens.1
                          have hc3 := hs3.lens.2
                          have HQU4 := Lib.hid (HQU3.out.keep hb14')
                          have HB14 := Lib.hid (Below.next H2r.out hb14')
                          have HW1214 := Lib.hid (Below.next HW12r.out hb14')
                          clear hs3 hb14' a0 a1 hal HG1
                          have u0 := HQU4.out.cell 0 rfl
                          have u1 := HQU4.out.cell 1 rfl
                          have hul := HQU4.out.lt
                          have HG2 := Lib.hid (lbegin_any (Live.moreU u i kn rn) _ i W12.heap.size w14 (HUN.out.kept HW1214.out) (HW1214.out.size) HSH2.out)
                          rw [HE2.out, HBG2.out] at HG2
                          go_wp2_with fail
                          refine HG2.out.mono ?_
                          rintro e w15 ⟨s4, rfl, hs4, hb15⟩
                          obtain ⟨o4, l4, c4, rfl⟩ := hs4.form
                          have HS4 := Lib.hid hs4
                          have hc4 := hs4.lens.2
                          have HS35 := Lib.hid ((HS3.out.kept hb15 fun _ _ _ h => h).wider hb15.size)
                          have HB15 := Lib.hid (Below.next HB14.out hb15)
                          have HR0 := Lib.hid (Below.refl w15.heap.size w15)
                          have hl3 : l3 ≤ 20000 := by rw [HL3.out, HBG.out]; exact Nat.le_trans (Live.begin_len _ _) (by simpa using hR2)
                          clear hs4 hb15 u0 u1 hul HG2
                          go_wp2_with fail
                          go_loopg [24] l3 (fun G ii wq => ∃ t : Nat, G = l3 - t ∧ t ≤ l3 ∧ ii = .int .i64 t ∧ Hid (Below w15.heap.size w15 wq))
                          case atStart => exact ⟨0, rfl, by omega, rfl, HR0⟩
                          case round =>
                            obtain ⟨t, rfl, ht, rfl, HWq⟩ := hrel
                            clear HR0
                            by_cases htl : t < l3
                            · obtain ⟨y, hy⟩ : ∃ y, BL[t]? = some y := ⟨_, List.getElem?_eq_getElem (by rw [← HL3.out]; exact htl)⟩
                              obtain ⟨b5, off5, es, ho5, hb5, hel, hecell, hei⟩ := HS35.out.at HWq.out hy
                              subst ho5
                              have g0 := hecell 0 (.int .i64 y) (by rw [hei.1]; rfl)
                              rw [Nat.mul_one, Nat.add_zero] at g0
                              have HJ := Lib.hid (has16_any (Live.begin' (Live.moreC code kn rn) R) (.slice o4 l4 c4) y w15.heap.size wr (HS4.out.kept HWq.out fun _ _ _ h => h) true (by rw [List.contains_iff_mem]; exact Live.moreC_begin HX.out HOP.out y (by have h := List.mem_of_getElem? hy; rw [HBG.out] at h; simpa using h)) (Nat.le_trans (Live.begin_len _ _) (by omega)))
                              have hgl := cell_lt g0
                              clear hecell hei hy
                              go_wp2_with fail
                              refine HJ.out.mono ?_
                              rintro e w7 ⟨rfl, rfl⟩
                              go_wp2_with fail
                              go_roundg (l3 - (t + 1))
                              case measure => omega
                              case rel => exact ⟨t + 1, rfl, by omega, by go_num, HWq⟩
                            · obtain rfl : t = l3 := by omega
                              have HBE2 := Lib.hid (Below.next HB2.out (Below.next HB15.out HWq.out))
                              go_wp2_with fail
                              go_ret
                              exact ⟨rfl, HBE2.out⟩
    · have f0 : (E != 0) = true := by simpa using hE0
      have HA0 := Lib.hid (show Live.afterL u n = [] from by rw [Live.afterL, if_neg (by rw [hE]; exact hE0)])
      rw [HA0.out] at HAF
      clear hE
      go_wp2_with fail
      refine HAF.out.mono ?_
      rintro e w2 ⟨sv, rfl, hsv, hb2⟩
      obtain ⟨osv, lsv, csv, rfl⟩ := hsv.form
      obtain rfl : lsv = 0 := hsv.lens.1
      clear hsv
      have HB2 := Lib.hid (Below.next HB1.out hb2)
      clear hb2 HAF
      go_wp2_with fail
      go_ret
      exact ⟨rfl, HB2.out⟩
end Go.Proofs.YtdlhocghiaghfaaGreatDoor

/-
  What the proofs lean on: Lives, ChkC.
-/
import Derived.Deep.LoopGhost
import Derived.Defers
import Derived.Test.YtigkhmppnnljiaaGreatDoorLsoA12
import Derived.Test.YtigkhmppnnljiaaGreatDoorLsoA13
import Derived.Test.YtigkhmppnnljiaaGreatDoorLsoA21
import Derived.Test.YtigkhmppnnljiaaGreatDoorLsoA24
import Derived.Test.YtigkhmppnnljiaaGreatDoorLsoA25
set_option maxRecDepth 100000
set_option maxHeartbeats 16000000
namespace Go.Proofs.YtigkhmppnnljiaaGreatDoor
section
namespace Live
open Unt Peep
theorem fits_facts {x : Ins} {regs nc np nk : Int} (hr : 0 ≤ regs) (h : fits x regs nc np nk = true) : (0 ≤ x.op ∧ x.op ≤ 22) ∧ (∀ r ∈ named x, 0 ≤ r ∧ r < regs) ∧ (-1 ≤ gives x ∧ gives x < regs) ∧ (x.op = 15 → 0 ≤ x.a ∧ x.a < nc) ∧ (x.op = 16 → 0 ≤ x.b ∧ x.b < nc) := by
 rw [← ins_fits x regs nc np nk hr] at h
 simp only [ins, isOp, Bool.and_eq_true, decide_eq_true_eq, Bool.not_eq_true', Bool.or_eq_false_iff, decide_eq_false_iff_not] at h
 obtain ⟨h0, _, h2, h3, h4⟩ := h
 refine ⟨h0, fun r hr => ?_, by omega, fun h15 => ?_, fun h16 => ?_⟩
 ·have := List.all_eq_true.1 h2 r hr
  simpa [below] using this
 ·simpa [tailOk, h15, below] using h4
 ·simpa [tailOk, h16, below] using h4
theorem closed_of {code : List Ins} {regs np nk : Int} (hr : 0 ≤ regs) (h0 : 0 < code.length) (hl : lastB (lastOp code) = true) (hf : ∀ x ∈ code, fits x regs code.length np nk = true) : Closed code := by
 refine ⟨h0, fun k x hx j hj => ?_⟩
 have hk := (List.getElem?_eq_some_iff.1 hx).1
 obtain ⟨_, _, _, h15, h16⟩ := fits_facts hr (hf x (List.mem_of_getElem? hx))
 simp only [succs, List.mem_append] at hj
 rcases hj with hj | hj
 ·split at hj
  ·rename_i hc
   obtain rfl : j = k + 1 := by simpa using hj
   refine Nat.lt_of_le_of_ne hk fun e => ?_
   have hlast : lastOp code = x.op := by
    rw [lastOp, List.getLast?_eq_getElem?, show code.length - 1 = k by omega, hx]
   rw [hlast] at hl
   simp only [lastB, Bool.or_eq_true, Bool.and_eq_true, decide_eq_true_eq] at hl
   omega
  ·simp at hj
 ·split at hj
  ·rename_i hc
   have := h15 hc
   obtain rfl : j = x.a.toNat := by simpa using hj
   omega
  ·split at hj
   ·rename_i hc
    have := h16 hc
    obtain rfl : j = x.b.toNat := by simpa using hj
    omega
   ·simp at hj
theorem codeOk_of {p : Proc} {np nk : Int} (hh : headB p = true) (hl : lastB (lastOp p.code) = true) (hf : ∀ x ∈ p.code, fits x p.regs p.code.length np nk = true) (hs : ∀ x ∈ p.code, x.l.length ≤ 1000) : ∃ R : Nat, p.regs = R ∧ R ≤ 20000 ∧ CodeOk p.code R := by
 simp only [headB, Bool.not_eq_true', Bool.or_eq_false_iff, decide_eq_false_iff_not] at hh
 obtain ⟨h1, h2, h3, _, h5, _⟩ := hh
 obtain ⟨R, hR⟩ := Int.eq_ofNat_of_zero_le (show 0 ≤ p.regs by omega)
 have hr : 0 ≤ p.regs := by omega
 refine ⟨R, hR, by omega, fun x hx => (fits_facts hr (hf x hx)).1, fun x hx r hrr => ?_, fun x hx => ?_, closed_of hr (by omega) hl hf, fun x hx => ?_, hs⟩
 ·have := (fits_facts hr (hf x hx)).2.1 r hrr; omega
 ·have := (fits_facts hr (hf x hx)).2.2.1; omega
 ·exact (fits_facts hr (hf x hx)).2.2.2
theorem procsB_at {nk np : Int} : ∀ {l : List Proc} {all : Int} {p : Proc}, procsB nk np l all = true → p ∈ l → headB p = true ∧ lastB (lastOp p.code) = true ∧ ∀ x ∈ p.code, fits x p.regs p.code.length np nk = true
 | [], _, _, _, h => by simp at h
 | q :: l, all, p, h, hp => by
  simp only [procsB, Bool.and_eq_true] at h
  rcases List.mem_cons.1 hp with rfl | hp
  ·exact ⟨h.1, h.2.2.1, List.all_eq_true.1 h.2.2.2.1⟩
  ·exact procsB_at h.2.2.2.2 hp
def wrongE (u : Unt) (n : Int) : Int := if u.okB = false then 5 else if n < 0 ∨ (u.procs.length : Int) ≤ n then 1 else 0
theorem wrongE_zero {u : Unt} {n : Int} (h : wrongE u n = 0) : u.okB = true ∧ ∃ (i : Nat) (p : Proc), n = i ∧ u.procs[i]? = some p := by
 unfold wrongE at h
 cases hk : u.okB with
 | false => rw [hk] at h; simp at h
 | true =>
  refine ⟨rfl, ?_⟩
  rw [hk] at h
  by_cases hn : n < 0 ∨ (u.procs.length : Int) ≤ n
  ·simp [hn] at h
  ·obtain ⟨i, rfl⟩ := Int.eq_ofNat_of_zero_le (show 0 ≤ n by omega)
   exact ⟨i, _, rfl, List.getElem?_eq_getElem (by omega)⟩
def Short (u : Unt) : Prop := ∀ p ∈ u.procs, p.code.length ≤ 1000 ∧ ∀ x ∈ p.code, x.l.length ≤ 1000
theorem unit_ok {u : Unt} (h : u.okB = true) (hs : Short u) {i : Nat} {p : Proc} (hp : u.procs[i]? = some p) : ∃ R : Nat, p.regs = R ∧ R ≤ 20000 ∧ CodeOk p.code R := by
 simp only [Unt.okB, Bool.and_eq_true] at h
 obtain ⟨h1, h2, h3⟩ := procsB_at h.2.2.2 (List.mem_of_getElem? hp)
 exact codeOk_of h1 h2 h3 (hs p (List.mem_of_getElem? hp)).2
theorem fewP_at {n rg : Int} : ∀ {l : List Proc} {k : Int} {p : Proc}, Unt.fewP n rg l k = true → p ∈ l → (p.code.length : Int) ≤ n ∧ p.regs ≤ rg ∧ ∀ x ∈ p.code, x.l.length ≤ 60
 | [], _, _, _, h => by simp at h
 | q :: l, k, p, h, hp => by
  simp only [Unt.fewP, Bool.and_eq_true, Bool.not_eq_true', decide_eq_false_iff_not] at h
  rcases List.mem_cons.1 hp with rfl | hp
  ·refine ⟨by omega, by omega, fun x hx => ?_⟩
   simpa using List.all_eq_true.1 h.2.2.1 x hx
  ·exact fewP_at h.2.2.2.2 hp
theorem short_of_few {u : Unt} {n rg : Int} (h : Unt.fewB u n rg = true) (hn : n ≤ 1000) : Short u := by
 simp only [Unt.fewB, Bool.and_eq_true] at h
 intro p hp
 obtain ⟨h1, _, h3⟩ := fewP_at h.2.2 hp
 exact ⟨by omega, fun x hx => Nat.le_trans (h3 x hx) (by omega)⟩
noncomputable def afterL (u : Unt) (n : Int) : List (List Int) := if wrongE u n = 0 then (match u.procs[n.toNat]? with | some p => (List.range p.code.length).map (after p.code p.regs.toNat) | none => []) else []
noncomputable def beginL (u : Unt) (n : Int) : List Int := if wrongE u n = 0 then (match u.procs[n.toNat]? with | some p => begin' p.code p.regs.toNat | none => []) else []
theorem afterL_at {u : Unt} {i : Nat} {p : Proc} (h : wrongE u i = 0) (hp : u.procs[i]? = some p) : afterL u i = (List.range p.code.length).map (after p.code p.regs.toNat) := by
 rw [afterL, if_pos h]; simp [hp]
theorem beginL_at {u : Unt} {i : Nat} {p : Proc} (h : wrongE u i = 0) (hp : u.procs[i]? = some p) : beginL u i = begin' p.code p.regs.toNat := by
 rw [beginL, if_pos h]; simp [hp]
open Classical in
theorem live_filter {code : List Ins} {R : Nat} {fr : List Nat} {P : Nat → Bool} (h : ∀ r, P r = true ↔ ∃ j ∈ fr, Need code r j) : ((List.range R).filter P).map (fun (q : Nat) => (q : Int)) = live code R fr := by
 unfold live
 congr 1
 apply List.filter_congr
 intro r _
 rw [Bool.eq_iff_iff]
 exact (h r).trans decide_eq_true_iff.symm
theorem after_filter {code : List Ins} {R k : Nat} {x : Ins} {P : Nat → Bool} (hx : code[k]? = some x) (h : ∀ r : Nat, P r = true ↔ ∃ j ∈ succs x k, Need code r j) : ((List.range R).filter P).map (fun (q : Nat) => (q : Int)) = after code R k := by
 rw [after, hx]; exact live_filter h
theorem begin_filter {code : List Ins} {R : Nat} {P : Nat → Bool} (h : ∀ r : Nat, P r = true ↔ Need code r 0) : ((List.range R).filter P).map (fun (q : Nat) => (q : Int)) = begin' code R :=
 live_filter fun r => by rw [h r]; simp
end Live
end
section
open Go.RowKit
theorem lwrong_any (u : Unt) (v : Value) (n : Int) (B : Nat) (w : World) (hv : UntR w B u v) (hB : B ≤ w.heap.size) :
  Calls Tryz.prog 79 #[v, .int .i64 n] w fun e w' => e = .returned (.int .i64 (Live.wrongE u n)) ∧ Below w.heap.size w w' := by
 obtain ⟨r, hr⟩ : ∃ r, Live.wrongE u n = r := ⟨_, rfl⟩
 rw [hr]
 have HV := Lib.hid hv
 obtain ⟨cv, pv, rfl, hc, hp⟩ := hv
 obtain ⟨op, np, cp, rfl, hnp, hcapp, hmaxp⟩ := hp.slice
 obtain ⟨ok, nk, ck, rfl, hcx⟩ := hc
 clear hcx
 have HC := Lib.hid (fun X => fcheck_any u _ B (w.alloc X) (HV.out.kept ((Below.one w X).mono hB)) (by simp; omega))
 have HNP := Lib.hid hnp
 obtain ⟨q, hq⟩ : ∃ q, u.okB = q := ⟨_, rfl⟩
 obtain ⟨E, hE⟩ : ∃ E, u.err = E := ⟨_, rfl⟩
 rw [hE] at HC
 rw [Unt.err, hq] at hE
 rw [Live.wrongE, hq] at hr
 have HR := Lib.hid hr
 clear hnp hr hq hp
 cases q with
 | false =>
  obtain rfl : (5 : Int) = E := hE
  obtain rfl : (5 : Int) = r := by rw [← HR.out]; rfl
  go_enter Tryz.func79, Tryz.ntmps79
  go_wp2_with fail
  refine (HC.out _).mono ?_
  rintro e w1 ⟨rfl, hb1⟩
  have HB1 := Lib.hid (one_below hb1)
  clear hb1 HC
  go_wp2_with fail
  go_ret
  exact ⟨rfl, HB1.out⟩
 | true =>
  obtain rfl : (0 : Int) = E := hE
  go_enter Tryz.func79, Tryz.ntmps79
  go_wp2_with fail
  refine (HC.out _).mono ?_
  rintro e w1 ⟨rfl, hb1⟩
  have HB1 := Lib.hid (one_below hb1)
  have bu1 : BoxL w1 w.heap.size 25 [.slice ok nk ck, .slice op np cp] := (BoxL.new rfl _ _).keep hb1
  have u1 := bu1.cell 1 rfl
  have hlt1 := bu1.lt
  clear hb1 HC bu1
  by_cases h0 : n < 0
  ·obtain rfl : (1 : Int) = r := by rw [← HR.out]; simp [h0]
   have f0 : decide (n < 0) = true := decide_eq_true h0
   go_wp2_with fail
   all_goals go_ret
   all_goals exact ⟨rfl, HB1.out⟩
  ·have f0 : decide (n < 0) = false := decide_eq_false h0
   by_cases h1 : (np : Int) ≤ n
   ·obtain rfl : (1 : Int) = r := by rw [← HR.out, ← HNP.out]; simp [h1]
    have f1 : decide ((np : Int) ≤ n) = true := decide_eq_true h1
    go_wp2_with fail
    all_goals go_ret
    all_goals exact ⟨rfl, HB1.out⟩
   ·obtain rfl : (0 : Int) = r := by rw [← HR.out, ← HNP.out]; simp [h0, h1]
    have f1 : decide ((np : Int) ≤ n) = false := decide_eq_false h1
    go_wp2_with fail
    all_goals go_ret
    all_goals exact ⟨rfl, HB1.out⟩
def IntsO (W : World) (base : Nat) (l : List Int) (cs : List Value) : Prop := ∃ sl, cs = [sl] ∧ W.ownsRow base 3 1 sl l.length (l.map (Value.int .i64)) ∧ ∀ y ∈ l, I64 y
theorem IntsO.keep {W W' : World} {base : Nat} {l : List Int} {cs : List Value} (h : IntsO W base l cs) (hb : Below W.heap.size W W') : IntsO W' base l cs := by
 obtain ⟨sl, h0, h1, h2⟩ := h
 exact ⟨sl, h0, ownsRow_keep h1 hb, h2⟩
theorem IntsO.grown {W W' : World} {base b2 n : Nat} {l : List Int} {cs : List Value} {v : Value} {xs : List Value} (h : IntsO W base l cs) (hv : W.ownsRow b2 32 1 v n xs) (hg : W.grownBy W' v.ownBlock) : IntsO W' base l cs := by
 obtain ⟨sl, h0, h1, h2⟩ := h
 exact ⟨sl, h0, h1.kept hg (rows_apart h1 hv (by decide)), h2⟩
theorem IntsO.read {W : World} {base : Nat} {l : List Int} {cs : List Value} (h : IntsO W base l cs) : IntsR W W.heap.size l cs := by
 obtain ⟨sl, h0, h1, h2⟩ := h
 exact ⟨sl, h0, rowInts h1 h2⟩
theorem i64_nats {l : List Nat} (h : ∀ r ∈ l, r ≤ 100000) : ∀ y ∈ l.map (fun (q : Nat) => (q : Int)), I64 y := by
 intro y hy
 obtain ⟨q, hq, rfl⟩ := List.mem_map.1 hy
 have := h q hq
 exact ⟨by omega, by omega⟩
theorem info_ints : (Tryz.prog.info? 32).map (fun i => (i.zero, i.size, i.bytes)) = some (some (.slice none 0 0), 1, 24) := by kernel_rfl
theorem slist_to (b n R : Nat) (P : Nat → Bool) (w : World) (l : List Int) (hl : ((List.range R).filter P).map (fun (q : Nat) => (q : Int)) = l) (h : SetW w b n P) (hr : R ≤ 64 * n) (hn : n ≤ 1000) :
  Calls Tryz.prog 81 #[.slice (some ⟨b, 0, none⟩) n n, .int .i64 R] w fun e w' => ∃ v, e = .returned v ∧ IntsO w' w.heap.size l [v] ∧ Below w.heap.size w w' := by
 refine (slist_any b n R P w h hr hn).mono ?_
 rintro e w' ⟨v, rfl, ho, hb⟩
 refine ⟨v, rfl, ⟨v, rfl, ?_, ?_⟩, hb⟩
 ·rw [← hl, List.length_map, List.map_map]; exact ho
 ·rw [← hl]
  exact i64_nats fun r hr' => by
   have := List.mem_range.1 (List.mem_filter.1 hr').1
   omega
def AfI (w5 : World) (ll : List (List Int)) (k : Nat) (v : Value) (wr : World) : Prop := ∃ xs, Below w5.heap.size w5 wr ∧ wr.ownsRow w5.heap.size 32 1 v (ll.take k).length xs ∧ CellsG 1 (IntsO wr w5.heap.size) (ll.take k) xs
theorem lafter_any (u : Unt) (v : Value) (n : Int) (B : Nat) (w : World) (hv : UntR w B u v) (hB : B ≤ w.heap.size) (hs : Live.Short u) :
  Calls Tryz.prog 46 #[v, .int .i64 n] w fun e w' => ∃ sv, e = .returned (.tuple #[sv, .int .i64 (Live.wrongE u n)]) ∧ SlC w' w'.heap.size 1 (IntsR w' w'.heap.size) (Live.afterL u n) sv ∧ Below w.heap.size w w' := by
 obtain ⟨r, hr⟩ : ∃ r, Live.wrongE u n = r := ⟨_, rfl⟩
 rw [hr]
 have HV := Lib.hid hv
 obtain ⟨cv, pv, rfl, hc, hp⟩ := hv
 obtain ⟨op, np, cp, rfl, hnp, hcapp, hmaxp⟩ := hp.slice
 obtain ⟨ok, nk, ck, rfl, hcx⟩ := hc
 clear hcx
 have HC := Lib.hid (fun X => lwrong_any u _ n B (w.alloc X) (HV.out.kept ((Below.one w X).mono hB)) (by simp; omega))
 rw [hr] at HC
 by_cases h0 : r = 0
 ·subst h0
  obtain ⟨hok, i, p, rfl, hpi⟩ := Live.wrongE_zero hr
  obtain ⟨R, hR, hR2, hcode⟩ := Live.unit_ok hok hs hpi
  have hsh := hs p (List.mem_of_getElem? hpi)
  have HLL := Lib.hid (Live.afterL_at hr hpi)
  have hin : i < np := by rw [hnp]; exact (List.getElem?_eq_some_iff.1 hpi).1
  have HPI := Lib.hid hpi
  have HP := Lib.hid hp
  have HCO := Lib.hid hcode
  obtain ⟨ll, hll⟩ : ∃ ll, Live.afterL u (i : Int) = ll := ⟨_, rfl⟩
  rw [hll] at HLL ⊢
  clear hll hr hpi hp hcode hnp hs
  go_enter Tryz.func46, Tryz.ntmps46
  go_wp2_with fail
  refine (HC.out _).mono ?_
  rintro e w1 ⟨rfl, hb1⟩
  have HB1 := Lib.hid (one_below hb1)
  have bu1 : BoxL w1 w.heap.size 25 [.slice ok nk ck, .slice op np cp] := (BoxL.new rfl _ _).keep hb1
  have u1 := bu1.cell 1 rfl
  have hlt1 := bu1.lt
  obtain ⟨b1, off1, cs, ho1, hbB, hcl, hcell, hpr⟩ := HP.out.at (HB1.out.mono hB) HPI.out
  subst ho1
  match cs, hcl with
  | [d0, d1, d2, d3, d4], _ =>
   have e0 := hcell 0 _ rfl
   have e1 := hcell 1 _ rfl
   have e2 := hcell 2 _ rfl
   have e3 := hcell 3 _ rfl
   have e4 := hcell 4 _ rfl
   rw [Nat.add_zero] at e0
   have hs1 := HB1.out.size
   have HSO := Lib.hid (fun X => solved_any p d0 d1 d2 d3 d4 B R (R / 64 + 1) (w1.alloc X) (hpr.kept ((HB1.out.mono hB).trans ((Below.one w1 X).mono (by omega)))) (by simp; omega) hR hR2 rfl HCO.out hsh.1)
   obtain ⟨args, rest, regs, code, alive⟩ := p
   obtain ⟨sl, al, he, _, _, hsl, hal⟩ := hpr
   obtain ⟨oc, m, cc, rfl⟩ := hsl.form
   obtain ⟨oal, lal, cal, rfl⟩ := hal.form
   clear hal
   simp only [List.cons.injEq, and_true] at he
   obtain ⟨rfl, rfl, rfl, rfl, rfl⟩ := he
   dsimp only at hR hsh hsl
   subst hR
   have HM := Lib.hid hsl.lens.1
   have hbl := cell_lt e0
   have BX := Lib.hid (BoxL.new (W := w1) rfl 31 [.int .i64 args, .bool rest, .int .i64 R, .slice oc m cc, .slice oal lal cal])
   clear hcell hcl hsl hb1 HC bu1
   go_wp2_with fail
   refine (HSO.out _).mono ?_
   rintro e w2 ⟨wb, va, vb, A, Bs, P, rfl, hsol, hb2, hAl, hBl, hPA, hPB⟩
   obtain ⟨n, hn⟩ : ∃ n, R / 64 + 1 = n := ⟨_, rfl⟩
   rw [hn] at hsol
   have hc0 : 0 < code.length := HCO.out.2.2.2.1.1
   obtain ⟨ga, gb, ca, cb, rfl, rfl⟩ := hsol.form (by omega) (by omega)
   have HS := Lib.hid hsol
   have HBX := Lib.hid (BX.out.keep hb2)
   have HB2 := Lib.hid (Below.next HB1.out (one_below hb2))
   have HBL := Lib.hid hBl
   have HPB := Lib.hid hPB
   have HLM := Lib.hid (show ll.length = code.length from by rw [HLL.out]; simp)
   obtain ⟨mb, hmb⟩ : ∃ mb, Bs.length = mb := ⟨_, rfl⟩
   rw [hmb] at HS HBL ⊢
   have HBLn := Lib.hid hmb
   have HN := Lib.hid hn
   have hmb2 : mb ≤ 1000 := by rw [HBL.out]; exact hsh.1
   have HI0 := Lib.hid (show AfI w2 ll 0 (.slice none 0 0) w2 from ⟨[], Below.refl _ _, World.ownsRow_nil _ _ _ _, rfl⟩)
   clear hsol hb2 BX HSO hAl hBl hPA hPB e0 e1 e2 e3 e4 u1 hmb hn
   go_wp2_with fail
   go_loopg [10, 31] mb (fun G v i wr => ∃ k : Nat, G = mb - k ∧ k ≤ mb ∧ i = .int .i64 k ∧ Hid (AfI w2 ll k v wr))
   case atStart => exact ⟨0, rfl, by omega, rfl, HI0⟩
   case round =>
    obtain ⟨k, rfl, hk, rfl, HI⟩ := hrel
    clear HI0
    obtain ⟨xs, hb, hown, hcs⟩ := HI.out
    by_cases hkm : k < mb
    ·have HSk := Lib.hid (HS.out.keep hb)
     obtain ⟨b, hb'⟩ : ∃ b, Bs[k]? = some b := ⟨_, List.getElem?_eq_getElem (by rw [HBLn.out]; exact hkm)⟩
     obtain ⟨gb', hgb, hlb, f2, hglt2⟩ := HSk.out.hdB hb'
     clear hlb
     simp only [Option.some.injEq, Addr.mk.injEq, and_true] at hgb
     obtain rfl := hgb
     obtain ⟨x, hx⟩ : ∃ x, code[k]? = some x := ⟨_, List.getElem?_eq_getElem (by rw [← HBL.out]; exact hkm)⟩
     have hlk : ll[k]? = some (Live.after code R k) := by
      rw [HLL.out]
      have : k < code.length := by rw [← HBL.out]; exact hkm
      simp [this]
     have hset : SetW wr b n (P b) := (HSk.out.2.2.2.2.2 b (List.mem_append_right _ (List.mem_of_getElem? hb'))).2
     have HLI := Lib.hid (slist_to b n R (P b) wr _ (Live.after_filter hx (fun r => HPB.out r k b x hx hb')) hset (by have := HN.out; omega) (by have := HN.out; omega))
     have b2 := (HBX.out.keep hb).cell 2 rfl
     have HB := Lib.hid hb
     have HO := Lib.hid hown
     have HCS := Lib.hid hcs
     have hsz := hb.size
     have hbxl := (HBX.out.keep hb).lt
     have HLK := Lib.hid (show ll.take (k + 1) = ll.take k ++ [Live.after code R k] from by rw [List.take_add_one, hlk]; rfl)
     have hlen : (ll.take k).length ≤ 1000 := by rw [List.length_take]; omega
     clear hb hown hcs HI hb' hx hlk hset
     go_wp2_with fail
     refine HLI.out.mono ?_
     rintro e w3 ⟨v3, rfl, hio, hb3⟩
     have HIO := Lib.hid hio
     have HB3 := Lib.hid (Below.next HB.out hb3)
     have HO3 := Lib.hid (ownsRow_keep HO.out hb3)
     have HCS3 := Lib.hid (HCS.out.mono fun l _ cs h => h.keep hb3)
     have hsz3 := hb3.size
     obtain ⟨i0, hi0, hz0, hz1, hz2⟩ := info_parts info_ints
     obtain ⟨o3, l3, c3, rfl⟩ : ∃ o l c, v3 = .slice o l c := by
      obtain ⟨sl, he, h1, _⟩ := hio
      simp only [List.cons.injEq, and_true] at he
      subst he
      rcases h1.2 with ⟨h, _⟩ | ⟨g, cap, cur, h, _⟩
      ·exact ⟨_, _, _, h⟩
      ·exact ⟨_, _, _, h⟩
     clear hb3 hio HLI b2 f2
     go_wp2_with (at_builtin; refine wpList_append_own _ rfl _ _ 29 rfl w2.heap.size 32 i0 (.slice none 0 0) 1 24 Tryz.underlying29 hi0 hz0 hz1 hz2 rfl (by decide) u10 _ xs rfl (HO3.out.alloc _) ⟨w3.heap.size, 0, none⟩ 1 1 [.slice o3 l3 c3] rfl rfl (new_cells w3 _ _) (by intro u hu; simp only [List.mem_cons, List.not_mem_nil, or_false] at hu; subst hu; rfl) (by unfold maxLen; omega) (by omega) (by simp; omega) ?_)
     intro v' w4 hown' hgrow _
     have HN4 := Lib.hid (show AfI w2 ll (k + 1) v' w4 from by
      refine ⟨xs ++ [.slice o3 l3 c3], (HB3.out.trans ((Below.one w3 _).mono HB3.out.size)).grown hgrow (by simp; omega) (fun g hg => (HO.out.lt g hg).1), ?_, ?_⟩
      ·rw [HLK.out, List.length_append, List.length_take]; exact hown'
      ·rw [HLK.out]
       refine (CellsG.snoc (size := 1) (cs := [.slice o3 l3 c3]) rfl (R := IntsO w3 w2.heap.size) ?_ HCS3.out).mono fun l _ cs h => (h.keep (Below.one w3 _)).grown (HO3.out.alloc _) hgrow
       obtain ⟨sl, he, h1, h2⟩ := HIO.out
       exact ⟨sl, he, ownsRow_base h1 hsz, h2⟩)
     clear hown' hgrow
     go_wp2_with fail
     go_roundg (mb - (k + 1))
     case measure => omega
     case rel => exact ⟨k + 1, rfl, by omega, by go_num, HN4⟩
    ·obtain rfl : k = mb := by omega
     have HE := Lib.hid (show SlC wr wr.heap.size 1 (IntsR wr wr.heap.size) ll u10 from by
      rw [List.take_of_length_le (by rw [HLM.out, ← HBL.out]; exact Nat.le_refl _)] at hown hcs
      exact slC_of_row hown (hcs.mono fun l _ cs h => h.read))
     have HB := Lib.hid (show Below w.heap.size w wr from HB2.out.trans (hb.mono HB2.out.size))
     obtain ⟨o9, l9, c9, rfl⟩ := HE.out.form
     clear hb hown hcs HI
     go_wp2_with fail
     go_ret2
     exact ⟨_, rfl, HE.out, HB.out⟩
 ·have HA := Lib.hid (show Live.afterL u n = [] from by rw [Live.afterL, if_neg (by rw [hr]; exact h0)])
  rw [HA.out]
  have f0 : (r != 0) = true := by simpa using h0
  clear hr hnp hp hs
  go_enter Tryz.func46, Tryz.ntmps46
  go_wp2_with fail
  refine (HC.out _).mono ?_
  rintro e w1 ⟨rfl, hb1⟩
  have HB1 := Lib.hid (one_below hb1)
  clear hb1 HC
  go_wp2_with fail
  go_ret2
  exact ⟨_, rfl, ⟨none, 0, 0, rfl, rfl, by omega, by omega, rfl, rfl⟩, HB1.out⟩
end
section
open Go.RowKit
theorem lbegin_any (u : Unt) (v : Value) (n : Int) (B : Nat) (w : World) (hv : UntR w B u v) (hB : B ≤ w.heap.size) (hs : Live.Short u) :
  Calls Tryz.prog 47 #[v, .int .i64 n] w fun e w' => ∃ sv, e = .returned (.tuple #[sv, .int .i64 (Live.wrongE u n)]) ∧ SlC w' w'.heap.size 1 IntR (Live.beginL u n) sv ∧ Below w.heap.size w w' := by
 obtain ⟨r, hr⟩ : ∃ r, Live.wrongE u n = r := ⟨_, rfl⟩
 rw [hr]
 have HV := Lib.hid hv
 obtain ⟨cv, pv, rfl, hc, hp⟩ := hv
 obtain ⟨op, np, cp, rfl, hnp, hcapp, hmaxp⟩ := hp.slice
 obtain ⟨ok, nk, ck, rfl, hcx⟩ := hc
 clear hcx
 have HC := Lib.hid (fun X => lwrong_any u _ n B (w.alloc X) (HV.out.kept ((Below.one w X).mono hB)) (by simp; omega))
 rw [hr] at HC
 by_cases h0 : r = 0
 ·subst h0
  obtain ⟨hok, i, p, rfl, hpi⟩ := Live.wrongE_zero hr
  obtain ⟨R, hR, hR2, hcode⟩ := Live.unit_ok hok hs hpi
  have hsh := hs p (List.mem_of_getElem? hpi)
  have HLL := Lib.hid (Live.beginL_at hr hpi)
  have hin : i < np := by rw [hnp]; exact (List.getElem?_eq_some_iff.1 hpi).1
  have HPI := Lib.hid hpi
  have HP := Lib.hid hp
  have HCO := Lib.hid hcode
  obtain ⟨ll, hll⟩ : ∃ ll, Live.beginL u (i : Int) = ll := ⟨_, rfl⟩
  rw [hll] at HLL ⊢
  clear hll hr hpi hp hcode hnp hs
  go_enter Tryz.func47, Tryz.ntmps47
  go_wp2_with fail
  refine (HC.out _).mono ?_
  rintro e w1 ⟨rfl, hb1⟩
  have HB1 := Lib.hid (one_below hb1)
  have bu1 : BoxL w1 w.heap.size 25 [.slice ok nk ck, .slice op np cp] := (BoxL.new rfl _ _).keep hb1
  have u1 := bu1.cell 1 rfl
  have hlt1 := bu1.lt
  obtain ⟨b1, off1, cs, ho1, hbB, hcl, hcell, hpr⟩ := HP.out.at (HB1.out.mono hB) HPI.out
  subst ho1
  match cs, hcl with
  | [d0, d1, d2, d3, d4], _ =>
   have e0 := hcell 0 _ rfl
   have e1 := hcell 1 _ rfl
   have e2 := hcell 2 _ rfl
   have e3 := hcell 3 _ rfl
   have e4 := hcell 4 _ rfl
   rw [Nat.add_zero] at e0
   have hs1 := HB1.out.size
   have HSO := Lib.hid (fun X => solved_any p d0 d1 d2 d3 d4 B R (R / 64 + 1) (w1.alloc X) (hpr.kept ((HB1.out.mono hB).trans ((Below.one w1 X).mono (by omega)))) (by simp; omega) hR hR2 rfl HCO.out hsh.1)
   obtain ⟨args, rest, regs, code, alive⟩ := p
   obtain ⟨sl, al, he, _, _, hsl, hal⟩ := hpr
   obtain ⟨oc, m, cc, rfl⟩ := hsl.form
   obtain ⟨oal, lal, cal, rfl⟩ := hal.form
   clear hal
   simp only [List.cons.injEq, and_true] at he
   obtain ⟨rfl, rfl, rfl, rfl, rfl⟩ := he
   dsimp only at hR hsh hsl
   subst hR
   have HM := Lib.hid hsl.lens.1
   have hbl := cell_lt e0
   have BX := Lib.hid (BoxL.new (W := w1) rfl 31 [.int .i64 args, .bool rest, .int .i64 R, .slice oc m cc, .slice oal lal cal])
   clear hcell hcl hsl hb1 HC bu1
   go_wp2_with fail
   refine (HSO.out _).mono ?_
   rintro e w2 ⟨wb, va, vb, A, Bs, P, rfl, hsol, hb2, hAl, hBl, hPA, hPB⟩
   obtain ⟨n, hn⟩ : ∃ n, R / 64 + 1 = n := ⟨_, rfl⟩
   rw [hn] at hsol
   have hc0 : 0 < code.length := HCO.out.2.2.2.1.1
   obtain ⟨ga, gb, ca, cb, rfl, rfl⟩ := hsol.form (by omega) (by omega)
   have HS := Lib.hid hsol
   have HBX := Lib.hid (BX.out.keep hb2)
   have HB2 := Lib.hid (Below.next HB1.out (one_below hb2))
   have HBL := Lib.hid hBl
   have HPB := Lib.hid hPB
   have HB := Lib.hid HB2.out.size
   obtain ⟨a0, ha0⟩ : ∃ a0, A[0]? = some a0 := ⟨_, List.getElem?_eq_getElem (by omega)⟩
   obtain ⟨ga', hga, hla, f1, hglt⟩ := HS.out.hdA ha0
   simp only [Option.some.injEq, Addr.mk.injEq, and_true] at hga
   obtain rfl := hga
   have hlist := Live.begin_filter (R := R) (P := P a0) (fun r => hPA r 0 a0 ha0)
   have HLI := Lib.hid (fun (V : World) (hV : V = w2.drew) => slist_to a0 n R (P a0) V _ hlist (by rw [hV]; exact (HS.out.2.2.2.2.2 a0 (List.mem_append_left _ (List.mem_of_getElem? ha0))).2) (by omega) (by omega))
   have b2 := HBX.out.cell 2 rfl
   have hbxl := HBX.out.lt
   have hA0 : 0 < A.length := by omega
   obtain ⟨la, hla2⟩ : ∃ la, A.length = la := ⟨_, rfl⟩
   rw [hla2] at hA0 ⊢
   have HLE := Lib.hid (show ll = Live.begin' code R from HLL.out)
   clear hla hla2 hlist hsol hb2 BX HSO hAl hBl hPA hPB e0 e1 e2 e3 e4 u1 hn ha0 hc0
   go_upto_region 6 with fail
   refine wp_region_quiet_class (fun V => V = w2.drew) 5 (by kernel_rfl) (by kernel_rfl) rfl ?_
   intro T _ W HW HW2
   have k1 : ∀ u, (W u).cell? ⟨ga, 0, none⟩ = some (hdV n a0) := fun u => by rw [HW u]; exact f1
   have k2 : ∀ u, (W u).cell? ⟨w1.heap.size, 2, none⟩ = some (.int .i64 R) := fun u => by rw [HW u]; exact b2
   have HWH := Lib.hid HW
   clear HW HW2
   simp only [List.take_succ_cons, List.take_zero, List.drop_succ_cons, List.drop_zero]
   repeat (go_big_quiet_step (fail))
   refine wpQuiet_nil ?_
   intro u
   go_wp2_with fail
   refine (HLI.out _ (HWH.out u)).mono ?_
   rintro e w3 ⟨v3, rfl, hio, hb3⟩
   have hb4 : Below w2.heap.size w2 w3 := by rw [HWH.out u] at hb3; exact (Below.refl w2.heap.size w2).drew.trans hb3
   have HE := Lib.hid (show SlC w3 w3.heap.size 1 IntR ll v3 from by
    obtain ⟨sl, he, h1, h2⟩ := hio
    simp only [List.cons.injEq, and_true] at he
    subst he
    rw [HLE.out]
    exact rowInts h1 h2)
   have HB4 := Lib.hid (Below.next HB2.out hb4)
   clear hio hb3 hb4 HLI k1 k2 f1 b2
   go_wp2_with fail
   go_ret2
   exact ⟨_, rfl, HE.out, HB4.out⟩
 ·have HA := Lib.hid (show Live.beginL u n = [] from by rw [Live.beginL, if_neg (by rw [hr]; exact h0)])
  rw [HA.out]
  have f0 : (r != 0) = true := by simpa using h0
  clear hr hnp hp hs
  go_enter Tryz.func47, Tryz.ntmps47
  go_wp2_with fail
  refine (HC.out _).mono ?_
  rintro e w1 ⟨rfl, hb1⟩
  have HB1 := Lib.hid (one_below hb1)
  clear hb1 HC
  go_wp2_with fail
  go_ret2
  exact ⟨_, rfl, ⟨none, 0, 0, rfl, rfl, by omega, by omega, rfl, rfl⟩, HB1.out⟩
end
section
open Go.RowKit
noncomputable def Live.procSound (p : Proc) : Bool := match (Live.begin' p.code p.regs.toNat).getLast? with | none => true | some r => decide (r < p.args)
noncomputable def Live.soundB (u : Unt) : Bool := u.okB && u.procs.all Live.procSound
theorem wrongE_in {u : Unt} {j : Nat} (h : u.okB = true) (hj : j < u.procs.length) : Live.wrongE u j = 0 := by
 rw [Live.wrongE, h, if_neg (by simp), if_neg (by omega)]
theorem lsound_any (u : Unt) (v : Value) (B : Nat) (w : World) (hv : UntR w B u v) (hB : B ≤ w.heap.size) (hs : Live.Short u) :
  Calls Tryz.prog 23 #[v] w fun e w' => e = .returned (.bool (Live.soundB u)) ∧ Below w.heap.size w w' := by
 obtain ⟨r, hr⟩ : ∃ r, Live.soundB u = r := ⟨_, rfl⟩
 rw [hr]
 have HV := Lib.hid hv
 obtain ⟨cv, pv, rfl, hc, hp⟩ := hv
 obtain ⟨op, np, cp, rfl, hnp, hcapp, hmaxp⟩ := hp.slice
 obtain ⟨ok, nk, ck, rfl, hcx⟩ := hc
 clear hcx
 have HC := Lib.hid (fun X => fcheck_any u _ B (w.alloc X) (HV.out.kept ((Below.one w X).mono hB)) (by simp; omega))
 have HNP := Lib.hid hnp
 have HP := Lib.hid hp
 have HSH := Lib.hid hs
 obtain ⟨q, hq⟩ : ∃ q, u.okB = q := ⟨_, rfl⟩
 obtain ⟨E, hE⟩ : ∃ E, u.err = E := ⟨_, rfl⟩
 rw [hE] at HC
 rw [Unt.err, hq] at hE
 have HQ := Lib.hid hq
 have HR := Lib.hid (show (q && u.procs.all Live.procSound) = r from by rw [← hr, Live.soundB, hq])
 clear hnp hr hq hp hs
 cases q with
 | false =>
  obtain rfl : (5 : Int) = E := hE
  obtain rfl : false = r := by rw [← HR.out]; rfl
  go_enter Tryz.func23, Tryz.ntmps23
  go_wp2_with fail
  refine (HC.out _).mono ?_
  rintro e w1 ⟨rfl, hb1⟩
  have HB1 := Lib.hid (one_below hb1)
  clear hb1 HC
  go_wp2_with fail
  go_ret
  exact ⟨rfl, HB1.out⟩
 | true =>
  obtain rfl : (0 : Int) = E := hE
  have HR2 := Lib.hid (show u.procs.all Live.procSound = r from by rw [← HR.out]; rfl)
  go_enter Tryz.func23, Tryz.ntmps23
  go_wp2_with fail
  refine (HC.out _).mono ?_
  rintro e w1 ⟨rfl, hb1⟩
  have HB1 := Lib.hid (one_below hb1)
  have BU := Lib.hid (show BoxL w1 w.heap.size 25 [.slice ok nk ck, .slice op np cp] from (BoxL.new rfl _ _).keep hb1)
  have u1 := BU.out.cell 1 rfl
  have hlt1 := BU.out.lt
  have HBB := Lib.hid (Below.refl w1.heap.size w1)
  clear hb1 HC
  go_wp2_with fail
  go_loopg [13] np (fun G i wr => ∃ j : Nat, G = np - j ∧ j ≤ np ∧ i = .int .i64 j ∧ Hid ((u.procs.take j).all Live.procSound = true) ∧ Hid (Below w1.heap.size w1 wr))
  case atStart => exact ⟨0, rfl, by omega, rfl, rfl, HBB⟩
  case round =>
   obtain ⟨j, rfl, hj, rfl, HA, HW⟩ := hrel
   clear HBB
   by_cases hjn : j < np
   ·obtain ⟨p, hx⟩ : ∃ p, u.procs[j]? = some p := ⟨_, List.getElem?_eq_getElem (by rw [← HNP.out]; exact hjn)⟩
    have hbw : Below B w wr := (HB1.out.trans (HW.out.mono HB1.out.size)).mono hB
    obtain ⟨b1, off1, cs, ho1, hbB, hcl, hcell, hpr⟩ := HP.out.at hbw hx
    subst ho1
    match cs, hcl with
    | [d0, d1, d2, d3, d4], _ =>
     have e0 := hcell 0 _ rfl
     have e1 := hcell 1 _ rfl
     have e2 := hcell 2 _ rfl
     have e3 := hcell 3 _ rfl
     have e4 := hcell 4 _ rfl
     rw [Nat.add_zero] at e0
     have hjl : j < u.procs.length := by rw [← HNP.out]; exact hjn
     have hw0 := wrongE_in HQ.out hjl
     have hbs := hbw.size
     have HBG := Lib.hid (fun X => lbegin_any u _ j B (wr.alloc X) (HV.out.kept (hbw.trans ((Below.one wr X).mono (by omega)))) (by simp; omega) HSH.out)
     rw [hw0] at HBG
     have HLI := Lib.hid (Live.beginL_at hw0 hx)
     obtain ⟨bl, hbl⟩ : ∃ bl, Live.beginL u (j : Int) = bl := ⟨_, rfl⟩
     rw [hbl] at HBG HLI
     have HTK := Lib.hid (show u.procs.take (j + 1) = u.procs.take j ++ [p] from by rw [List.take_add_one, hx]; rfl)
     have HMEM := Lib.hid (List.mem_of_getElem? hx)
     have HPS := Lib.hid (show Live.procSound p = (match bl.getLast? with | none => true | some r => decide (r < p.args)) from by rw [Live.procSound, HLI.out])
     obtain ⟨args, rest, regs, code, alive⟩ := p
     obtain ⟨sl, al, he, _, _, hsl, hal⟩ := hpr
     obtain ⟨oc, m, cc, rfl⟩ := hsl.form
     obtain ⟨oal, lal, cal, rfl⟩ := hal.form
     simp only [List.cons.injEq, and_true] at he
     obtain ⟨rfl, rfl, rfl, rfl, rfl⟩ := he
     have hbl1 := cell_lt e0
     have U0 := (BU.out.keep HW.out).cell 0 rfl
     have U1 := (BU.out.keep HW.out).cell 1 rfl
     have hul := (BU.out.keep HW.out).lt
     have BX := Lib.hid (BoxL.new (W := wr) rfl 31 [.int .i64 args, .bool rest, .int .i64 regs, .slice oc m cc, .slice oal lal cal])
     clear hcell hcl hsl hal hx hw0 hbl hjl
     go_wp2_with fail
     refine (HBG.out _).mono ?_
     rintro e w3 ⟨sv, rfl, hsb, hb3⟩
     obtain ⟨ob, lb, cb, rfl⟩ := hsb.form
     have HSB := Lib.hid hsb
     have HBX := Lib.hid (BX.out.keep hb3)
     have HW3 := Lib.hid (Below.next HW.out (one_below hb3))
     have HLB := Lib.hid hsb.lens.1
     have bx0 := HBX.out.cell 0 rfl
     have hbxl := HBX.out.lt
     clear hsb hb3 BX HBG e0 e1 e2 e3 e4 U0 U1
     by_cases hlb0 : lb = 0
     ·subst hlb0
      have HN := Lib.hid (show (u.procs.take (j + 1)).all Live.procSound = true from by
       have hbn : bl = [] := List.eq_nil_of_length_eq_zero HLB.out.symm
       rw [HTK.out, List.all_append, HA.out]
       simp [HPS.out, hbn])
      go_wp2_with fail
      go_region
      go_wp2_with fail
      go_roundg (np - (j + 1))
      case measure => omega
      case rel => exact ⟨j + 1, rfl, by omega, by go_num, HN, Lib.hid HW3.out.drew⟩
     ·obtain ⟨y, hy⟩ : ∃ y, bl[lb - 1]? = some y := ⟨_, List.getElem?_eq_getElem (by rw [← HLB.out]; omega)⟩
      obtain ⟨b4, off4, es, ho4, hb4, hel, hecell, hei⟩ := HSB.out.at (Below.refl _ _) hy
      subst ho4
      have g0 := hecell 0 (.int .i64 y) (by rw [hei.1]; rfl)
      rw [Nat.mul_one, Nat.add_zero] at g0
      have hlast : bl.getLast? = some y := by rw [List.getLast?_eq_getElem?, ← HLB.out]; exact hy
      have hcb := HSB.out.lens.2
      have d1 : decide (0 < lb) = true := decide_eq_true (by omega)
      have hlb1 : 0 < lb := by omega
      have d3 : (0 : Int) < (lb : Int) := by omega
      have HLS := Lib.hid hlast
      clear hlast hy hecell hei
      by_cases hya : args ≤ y
      ·have d2 : decide (args ≤ y) = true := decide_eq_true hya
       have HF := Lib.hid (show false = r from by
        rw [← HR2.out]
        symm
        rw [List.all_eq_false]
        exact ⟨_, HMEM.out, by rw [HPS.out, HLS.out]; simp; omega⟩)
       obtain rfl := HF.out
       have HB := Lib.hid (show Below w.heap.size w w3 from HB1.out.trans (HW3.out.mono HB1.out.size))
       go_wp2_with fail
       go_big_region
       go_wp2_with fail
       go_ret
       exact ⟨rfl, HB.out.drew⟩
      ·have d2 : decide (args ≤ y) = false := decide_eq_false hya
       have HN := Lib.hid (show (u.procs.take (j + 1)).all Live.procSound = true from by
        rw [HTK.out, List.all_append, HA.out]
        simp only [List.all_cons, List.all_nil, Bool.and_true, Bool.true_and]
        rw [HPS.out, HLS.out]
        simp; omega)
       go_wp2_with fail
       go_big_region
       go_wp2_with fail
       go_roundg (np - (j + 1))
       case measure => omega
       case rel => exact ⟨j + 1, rfl, by omega, by go_num, HN, Lib.hid HW3.out.drew⟩
   ·obtain rfl : j = np := by omega
    have HT := Lib.hid (show true = r from by
     have h := HA.out
     rw [List.take_of_length_le (by rw [← HNP.out]; exact Nat.le_refl _)] at h
     rw [← HR2.out, h])
    obtain rfl := HT.out
    have HB := Lib.hid (show Below w.heap.size w wr from HB1.out.trans (HW.out.mono HB1.out.size))
    go_wp2_with fail
    go_ret
    exact ⟨rfl, HB.out⟩
end
section
open Go Go.RowKit
theorem SlC.drops {α : Type} {w : World} {B size : Nat} {R : α → List Value → Prop} {l : List α} {b off len cap n : Nat} (h : SlC w B size R l (.slice (some ⟨b, off, none⟩) len cap)) (hn : n ≤ len) : SlC w B size R (l.drop n) (.slice (some ⟨b, off + n * size, none⟩) (len - n) (cap - n)) := by
 obtain ⟨o', len', cap', he, h1, h2, h3, h4⟩ := h
 simp only [Value.slice.injEq] at he
 obtain ⟨rfl, rfl, rfl⟩ := he
 refine ⟨_, len - n, cap - n, rfl, by rw [List.length_drop]; omega, by omega, by omega, fun hl => ⟨rfl, (h4.1 (fun e => hl (by rw [e]; simp))).2⟩, fun i x hx => ?_⟩
 rw [List.getElem?_drop] at hx
 obtain ⟨cs, g1, g2, g3⟩ := h4.2 (n + i) x hx
 refine ⟨cs, g1, fun j u hj => ?_, g3⟩
 have := g2 j u hj
 rw [show off + n * size + i * size + j = off + (n + i) * size + j by rw [Nat.add_mul]; omega]
 exact this
end
end Go.Proofs.YtigkhmppnnljiaaGreatDoor

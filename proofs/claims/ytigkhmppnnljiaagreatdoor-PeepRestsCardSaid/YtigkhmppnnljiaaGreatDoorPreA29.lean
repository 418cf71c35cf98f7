/-
  What the proofs lean on: MkP, MkW, SpellF, SameU.
-/
import Derived.Deep.LoopGhost
import Derived.Deep.RegionWith
import Derived.BigQuiet
import Derived.Test.YtigkhmppnnljiaaGreatDoorPreA13
import Derived.Test.YtigkhmppnnljiaaGreatDoorPreA21
import Derived.Test.YtigkhmppnnljiaaGreatDoorPreA24
import Derived.Test.YtigkhmppnnljiaaGreatDoorPreA28
set_option maxRecDepth 100000
set_option maxHeartbeats 16000000
namespace Go.Proofs.YtigkhmppnnljiaaGreatDoor
section
open Go Go.RowKit Mk
theorem CellsG.turn {α : Type} {size : Nat} {R : α → List Value → Prop} {f : α → α} {j : Nat} {u : Value} (hj : j < size) (hR : ∀ x cs, R x cs → cs.length = size → R (f x) (cs.set j u)) : ∀ {l : List α} {xs : List Value} {k : Nat}, CellsG size R l xs → k < l.length → CellsG size R (l.modify k f) (xs.set (k * size + j) u)
 | [], _, k, _, hk => by simp at hk
 | x :: l, xs, 0, ⟨cs, r, he, hs, hx, hr⟩, _ => by
  rw [List.modify_zero_cons, Nat.zero_mul, Nat.zero_add, he]
  exact ⟨cs.set j u, r, by rw [List.set_append_left _ _ (by omega)], by simp [hs], hR x cs hx hs, hr⟩
 | x :: l, xs, k + 1, ⟨cs, r, he, hs, hx, hr⟩, hk => by
  rw [List.modify_succ_cons, he]
  refine ⟨cs, r.set (k * size + j) u, ?_, hs, hx, CellsG.turn hj hR hr (by simpa using hk)⟩
  rw [List.set_append_right _ _ (by rw [hs, Nat.add_mul]; omega), hs, show (k + 1) * size + j - size = k * size + j by rw [Nat.add_mul]; omega]
end
section
open Go Go.RowKit Mk
theorem TrmR.shape {W : World} {B : Nat} {x : Trm} {c0 c1 c2 c3 : Value} (h : TrmR W B x [c0, c1, c2, c3]) : ∃ q r u q' r' u', c0 = .int .i64 x.op ∧ c1 = .int .i64 x.n ∧ c2 = .slice q r u ∧ c3 = .slice q' r' u' ∧ I64 x.n := by
 obtain ⟨op, n, v, t⟩ := x
 obtain ⟨vs', ts', he, _, hn, hvs, hts⟩ := trmR_iff.1 h
 simp only [List.cons.injEq, and_true] at he
 obtain ⟨rfl, rfl, rfl, rfl⟩ := he
 obtain ⟨q, r, u, rfl⟩ := hvs.form
 obtain ⟨q', r', u', rfl⟩ := hts.form
 exact ⟨_, _, _, _, _, _, rfl, rfl, rfl, rfl, hn⟩
theorem allT_append (lk : List (Int × Int) → Int → Int) : ∀ (a b : List Trm) (s : MSt), Mk.allT lk (a ++ b) s = ((Mk.allT lk a s).1 ++ (Mk.allT lk b (Mk.allT lk a s).2).1, (Mk.allT lk b (Mk.allT lk a s).2).2)
 | [], b, s => by simp [Mk.allT]
 | x :: a, b, s => by
  rw [List.cons_append, Mk.allT, Mk.allT]
  simp only [allT_append lk a b]
  rfl
theorem allT_snoc (lk : List (Int × Int) → Int → Int) {l : List Trm} {j : Nat} {x : Trm} (h : l[j]? = some x) (s : MSt) : Mk.allT lk (l.take (j + 1)) s = ((Mk.allT lk (l.take j) s).1 ++ [(Mk.had lk x (Mk.allT lk (l.take j) s).2).1], (Mk.had lk x (Mk.allT lk (l.take j) s).2).2) := by
 rw [List.take_add_one, h, allT_append]
 simp [Mk.allT, Mk.had]
theorem allT_length (lk : List (Int × Int) → Int → Int) : ∀ (l : List Trm) (s : MSt), (Mk.allT lk l s).1.length = l.length
 | [], s => by simp [Mk.allT]
 | x :: l, s => by rw [Mk.allT]; simp [allT_length lk l]
end
section
open Go
def spell (f : Nat → Value) : Nat → List Bool → List Value → List Value
 | _, _, [] => []
 | _, [], l => l
 | i, true :: m, _ :: l => f i :: spell f (i + 1) m l
 | i, false :: m, v :: l => v :: spell f (i + 1) m l
theorem spell_get (f : Nat → Value) : ∀ (l : List Value) (i : Nat) (m : List Bool) (j : Nat), (spell f i m l)[j]? = (l[j]?).map fun v => if m.getD j false = true then f (i + j) else v
 | [], i, m, j => by simp [spell]
 | v :: l, i, [], j => by
  have : spell f i [] (v :: l) = v :: l := by rw [spell]; simp
  rw [this]
  cases h : (v :: l)[j]? <;> simp
 | v :: l, i, true :: m, 0 => by simp [spell]
 | v :: l, i, false :: m, 0 => by simp [spell]
 | v :: l, i, true :: m, j + 1 => by
  rw [spell, List.getElem?_cons_succ, List.getElem?_cons_succ, spell_get f l (i + 1) m j]
  simp only [List.getD_cons_succ, show i + 1 + j = i + (j + 1) by omega]
 | v :: l, i, false :: m, j + 1 => by
  rw [spell, List.getElem?_cons_succ, List.getElem?_cons_succ, spell_get f l (i + 1) m j]
  simp only [List.getD_cons_succ, show i + 1 + j = i + (j + 1) by omega]
def maskB (ops : Array Oper) (n : Nat) (m : List Bool) : Bool := (List.range n).all fun i => match ops[i]? with | some o => (match o.dst with | some d => m.getD d false | none => true) | none => true
theorem act_spell {ops : Array Oper} {n : Nat} {a a0 : Act} (m : List Bool) (hB : maskB ops n m = true) (hd : a.defers = a0.defers) (hs : a.tmps.size = a0.tmps.size) (hr : Rest ops n a0 a) : ∃ f : Nat → Value, a = { tmps := (spell f 0 m a0.tmps.toList).toArray, defers := a0.defers } ∧ ∀ t, f t = a.tmps.getD t undef := by
 refine ⟨fun t => a.tmps.getD t undef, ?_, fun _ => rfl⟩
 obtain ⟨t, d⟩ := a
 obtain ⟨t0, d0⟩ := a0
 simp only at hd hs
 subst hd
 simp only [Act.mk.injEq, and_true]
 apply Array.ext_getElem?
 intro j
 have h0 : ∀ l : List Value, l.toArray[j]? = l[j]? := fun l => by simp
 rw [h0 (spell _ _ _ _), spell_get]
 rw [Array.getElem?_toList]
 by_cases hj : j < t0.size
 ·rw [Array.getElem?_eq_getElem hj, Array.getElem?_eq_getElem (by rw [hs]; exact hj)]
  simp only [Option.map_some, Option.some.injEq, Nat.zero_add]
  by_cases hm : m.getD j false = true
  ·rw [if_pos hm]
   simp [Array.getD, hs, hj]
  ·rw [if_neg hm]
   have h1 := hr j (fun i o hi ho e => by
    have h2 := List.all_eq_true.1 hB i (List.mem_range.2 hi)
    simp only [ho, e] at h2
    exact hm h2)
   simpa [Array.getD, hs, hj] using h1
 ·rw [Array.getElem?_eq_none (by omega), Array.getElem?_eq_none (by omega)]
  rfl
end
section
open Go Go.RowKit
theorem consts_self (l : List Dat) (v u : Value) (B : Nat) (w : World) (hv : RepS w B l v) (hu : RepS w B l u) (hB : B ≤ w.heap.size) :
  Calls Tryz.prog 44 #[v, u] w fun e w' => e = .returned (.bool true) ∧ Below w.heap.size w w' := by
 obtain ⟨o1, n1, c1, rfl, hn1, hc1, hm1, hk1⟩ := hv
 obtain ⟨o2, n2, c2, rfl, hn2, hc2, hm2, hk2⟩ := hu
 have HK1 := Lib.hid hk1
 have HK2 := Lib.hid hk2
 have HN1 := Lib.hid hn1
 obtain rfl : n1 = n2 := by rw [hn1, hn2]
 clear hk1 hk2 hn1 hn2
 go_enter Tryz.func44, Tryz.ntmps44
 go_wp2_with fail
 go_loopg [5] n1 (fun g i wr => ∃ j : Nat, g = n1 - j ∧ j ≤ n1 ∧ i = .int .i64 j ∧ Hid (Below w.heap.size w wr))
 case atStart => exact ⟨0, rfl, by omega, rfl, Lib.hid (Below.refl _ _)⟩
 case round =>
  obtain ⟨j, rfl, hj, rfl, HW⟩ := hrel
  by_cases hjl : j < n1
  ·obtain ⟨x, hx⟩ : ∃ x, l[j]? = some x := ⟨_, List.getElem?_eq_getElem (by rw [← HN1.out]; exact hjl)⟩
   obtain ⟨b, off, k', n', d', s', l', o', len', cap', ho, hxe, e0, e1, e2, e3, e4, er⟩ := part_at2 HK1.out (HW.out.mono hB) hx
   obtain ⟨b', off', k'', n'', d'', s'', l'', o'', len'', cap'', ho', hxe', f0, f1, f2, f3, f4, fr⟩ := part_at2 HK2.out (HW.out.mono hB) hx
   subst ho ho'
   have hbl := cell_lt e0
   have hbl' := cell_lt f0
   have HER := Lib.hid er
   have HFR := Lib.hid fr
   have hxx := hxe.symm.trans hxe'
   have HXX := Lib.hid hxx
   have HD := Lib.hid ((Below.refl wr.heap.size wr).drew)
   have hzw : B ≤ wr.heap.size := Nat.le_trans hB HW.out.size
   clear hx hxe hxe' er fr hxx
   go_wp2_with fail
   refine wp_region_quiet_all (Below wr.heap.size wr) (by kernel_rfl) (by kernel_rfl) HD.out ?_
   intro T0 _ WW HWW HWW2
   have a0 : ∀ t, (WW t).cell? _ = _ := fun t => ((HWW t).cell (p := ⟨b, off + j * 5, none⟩) hbl).trans e0
   have a1 : ∀ t, (WW t).cell? _ = _ := fun t => ((HWW t).cell (p := ⟨b, off + j * 5 + 1, none⟩) hbl).trans e1
   have a2 : ∀ t, (WW t).cell? _ = _ := fun t => ((HWW t).cell (p := ⟨b, off + j * 5 + 2, none⟩) hbl).trans e2
   have a3 : ∀ t, (WW t).cell? _ = _ := fun t => ((HWW t).cell (p := ⟨b, off + j * 5 + 3, none⟩) hbl).trans e3
   have a4 : ∀ t, (WW t).cell? _ = _ := fun t => ((HWW t).cell (p := ⟨b, off + j * 5 + 4, none⟩) hbl).trans e4
   have b0 : ∀ t, (WW t).cell? _ = _ := fun t => ((HWW t).cell (p := ⟨b', off' + j * 5, none⟩) hbl').trans f0
   have b1 : ∀ t, (WW t).cell? _ = _ := fun t => ((HWW t).cell (p := ⟨b', off' + j * 5 + 1, none⟩) hbl').trans f1
   have b2 : ∀ t, (WW t).cell? _ = _ := fun t => ((HWW t).cell (p := ⟨b', off' + j * 5 + 2, none⟩) hbl').trans f2
   have b3 : ∀ t, (WW t).cell? _ = _ := fun t => ((HWW t).cell (p := ⟨b', off' + j * 5 + 3, none⟩) hbl').trans f3
   have b4 : ∀ t, (WW t).cell? _ = _ := fun t => ((HWW t).cell (p := ⟨b', off' + j * 5 + 4, none⟩) hbl').trans f4
   have HWH := Lib.hid HWW
   have HW2 := Lib.hid HWW2
   have HC : Hid (∀ t, Calls Tryz.prog 77 #[.agg #[.int .i64 k', .int .i64 n', .int .i64 d', .string s', .slice o' len' cap'], .agg #[.int .i64 k'', .int .i64 n'', .int .i64 d'', .string s'', .slice o'' len'' cap'']] (WW t) fun e w' => e = .returned (.bool true) ∧ ∃ t', w' = WW t') := Lib.hid (fun t => calls_class HW2.out ((ralike_to _ _ _ _ B (WW t) true (by rw [← HXX.out]; exact Dat.alike_self _) (HER.out.kept ((HWH.out t).mono hzw)) (HFR.out.kept ((HWH.out t).mono hzw)) (Nat.le_trans hzw (HWH.out t).size)).mono fun e w' h => ⟨h.1, Below.next (HWH.out t) h.2⟩))
   clear HWW HWW2 e0 e1 e2 e3 e4 f0 f1 f2 f3 f4
   repeat (go_big_quiet_step (first | (go_at_call 77; exact HC.out _) | fail))
   refine wpQuiet_nil ?_
   intro t
   have HN := Lib.hid (HW.out.trans ((HWH.out t).mono HW.out.size))
   clear a0 a1 a2 a3 a4 b0 b1 b2 b3 b4 HC
   go_wp2_with fail
   go_roundg (n1 - (j + 1))
   case measure => omega
   case rel => exact ⟨j + 1, rfl, by omega, by go_num, HN⟩
  ·go_wp2_with fail
   go_ret
   exact ⟨rfl, HW.out⟩
theorem same_self (u : Unt) (v v' : Value) (B : Nat) (w : World) (hv : UntR w B u v) (hv' : UntR w B u v') (hB : B ≤ w.heap.size) (hp : ∀ p ∈ u.procs, p.alive = [] ∧ p.code.length ≤ 100000) :
  Calls Tryz.prog 17 #[v, v'] w fun e w' => e = .returned (.bool true) ∧ Below w.heap.size w w' := by
 obtain ⟨cv, pv, rfl, hc, hpr⟩ := hv
 obtain ⟨cv', pv', rfl, hc', hpr'⟩ := hv'
 have HC := Lib.hid hc
 have HC' := Lib.hid hc'
 obtain ⟨o0, l0, c0, rfl, hx0⟩ := hc
 obtain ⟨o0', l0', c0', rfl, hx0'⟩ := hc'
 obtain ⟨o1, np, c1, rfl⟩ := hpr.form
 obtain ⟨o1', np', c1', rfl⟩ := hpr'.form
 obtain rfl : np = np' := by rw [hpr.lens.1, hpr'.lens.1]
 have HP := Lib.hid hpr
 have HP' := Lib.hid hpr'
 have HN := Lib.hid hpr.lens.1
 have HAL := Lib.hid hp
 have hl1 := hpr.lens.2
 have hl2 := hpr'.lens.2
 clear hx0 hx0' hpr hpr' hp
 obtain ⟨W2, hW2⟩ : ∃ W2, (w.alloc (.cells #[.slice o0 l0 c0, .slice o1 np c1] 25)).alloc (.cells #[.slice o0' l0' c0', .slice o1' np c1'] 25) = W2 := ⟨_, rfl⟩
 have HB2 := Lib.hid (show Below w.heap.size w W2 from by rw [← hW2]; exact (Below.one w _).trans ((Below.one _ _).mono (by simp)))
 have HX := Lib.hid (show BoxL W2 w.heap.size 25 [.slice o0 l0 c0, .slice o1 np c1] from by rw [← hW2]; exact (BoxL.new rfl _ _).alloc _)
 have HX' := Lib.hid (show BoxL W2 (w.heap.size + 1) 25 [.slice o0' l0' c0', .slice o1' np c1'] from by rw [← hW2]; exact BoxL.new (by simp) _ _)
 have HW2 := Lib.hid hW2
 have HCC := Lib.hid (consts_self u.consts _ _ B W2 (HC.out.kept (HB2.out.mono hB)) (HC'.out.kept (HB2.out.mono hB)) (Nat.le_trans hB HB2.out.size))
 clear hW2
 go_enter Tryz.func17, Tryz.ntmps17
 go_upto_region 1 with fail
 rw [HW2.out]
 have x0 := HX.out.cell 0 rfl
 have xl := HX.out.lt
 have y0 := HX'.out.cell 0 rfl
 have yl := HX'.out.lt
 go_wp2_with fail
 with_reducible refine HCC.out.mono ?_
 rintro e w3 ⟨rfl, hb3⟩
 have HB3 := Lib.hid (HB2.out.trans (hb3.mono HB2.out.size))
 have HX3 := Lib.hid (HX.out.keep hb3)
 have HX3' := Lib.hid (HX'.out.keep hb3)
 clear hb3 HCC x0 xl y0 yl
 have x1 := HX3.out.cell 1 rfl
 have xl := HX3.out.lt
 have y1 := HX3'.out.cell 1 rfl
 have yl := HX3'.out.lt
 go_wp2_with fail
 go_loopg [5] np (fun g i wr => ∃ j : Nat, g = np - j ∧ j ≤ np ∧ i = .int .i64 j ∧ Hid (Below w3.heap.size w3 wr))
 case atStart => exact ⟨0, rfl, by omega, rfl, Lib.hid (Below.refl _ _)⟩
 case round =>
  obtain ⟨j, rfl, hj, rfl, HW⟩ := hrel
  clear x1 xl y1 yl
  have HBW := Lib.hid (HB3.out.trans (HW.out.mono HB3.out.size))
  have HXR := Lib.hid (HX3.out.keep HW.out)
  have HXR' := Lib.hid (HX3'.out.keep HW.out)
  by_cases hjl : j < np
  ·obtain ⟨p, hx⟩ : ∃ p, u.procs[j]? = some p := ⟨_, List.getElem?_eq_getElem (by rw [← HN.out]; exact hjl)⟩
   have hmem := List.mem_of_getElem? hx
   obtain ⟨b, off, cs, ho, _, hcl, hcell, hr⟩ := HP.out.at (HBW.out.mono hB) hx
   obtain ⟨b', off', cs', ho', _, hcl', hcell', hr'⟩ := HP'.out.at (HBW.out.mono hB) hx
   subst ho ho'
   match cs, hcl, cs', hcl' with
   | [s0, s1, s2, s3, s4], _, [t0, t1, t2, t3, t4], _ =>
    have e0 := hcell 0 _ rfl
    have e1 := hcell 1 _ rfl
    have e2 := hcell 2 _ rfl
    have e3 := hcell 3 _ rfl
    have e4 := hcell 4 _ rfl
    have f0 := hcell' 0 _ rfl
    have f1 := hcell' 1 _ rfl
    have f2 := hcell' 2 _ rfl
    have f3 := hcell' 3 _ rfl
    have f4 := hcell' 4 _ rfl
    simp only [Nat.add_zero] at e0 f0
    have hbl := cell_lt e0
    have hbl' := cell_lt f0
    have HR := Lib.hid hr
    have HR' := Lib.hid hr'
    have HM := Lib.hid hmem
    have HD := Lib.hid ((Below.refl wr.heap.size wr).drew)
    clear hx hmem hcell hcell' hr hr'
    have x1 := HXR.out.cell 1 rfl
    have xl := HXR.out.lt
    go_upto_region 6 with fail
    clear x1 xl
    refine wp_region_quiet_all (Below wr.heap.size wr) (by kernel_rfl) (by kernel_rfl) HD.out ?_
    intro T0 _ WW HWW HWW2
    have x1 : ∀ t, (WW t).cell? _ = _ := fun t => ((HWW t).cell (p := ⟨w.heap.size, 1, none⟩) HXR.out.lt).trans (HXR.out.cell 1 rfl)
    have y1 : ∀ t, (WW t).cell? _ = _ := fun t => ((HWW t).cell (p := ⟨w.heap.size + 1, 1, none⟩) HXR'.out.lt).trans (HXR'.out.cell 1 rfl)
    have a0 : ∀ t, (WW t).cell? _ = _ := fun t => ((HWW t).cell (p := ⟨b, off + j * 5, none⟩) hbl).trans e0
    have a1 : ∀ t, (WW t).cell? _ = _ := fun t => ((HWW t).cell (p := ⟨b, off + j * 5 + 1, none⟩) hbl).trans e1
    have a2 : ∀ t, (WW t).cell? _ = _ := fun t => ((HWW t).cell (p := ⟨b, off + j * 5 + 2, none⟩) hbl).trans e2
    have a3 : ∀ t, (WW t).cell? _ = _ := fun t => ((HWW t).cell (p := ⟨b, off + j * 5 + 3, none⟩) hbl).trans e3
    have a4 : ∀ t, (WW t).cell? _ = _ := fun t => ((HWW t).cell (p := ⟨b, off + j * 5 + 4, none⟩) hbl).trans e4
    have b0 : ∀ t, (WW t).cell? _ = _ := fun t => ((HWW t).cell (p := ⟨b', off' + j * 5, none⟩) hbl').trans f0
    have b1 : ∀ t, (WW t).cell? _ = _ := fun t => ((HWW t).cell (p := ⟨b', off' + j * 5 + 1, none⟩) hbl').trans f1
    have b2 : ∀ t, (WW t).cell? _ = _ := fun t => ((HWW t).cell (p := ⟨b', off' + j * 5 + 2, none⟩) hbl').trans f2
    have b3 : ∀ t, (WW t).cell? _ = _ := fun t => ((HWW t).cell (p := ⟨b', off' + j * 5 + 3, none⟩) hbl').trans f3
    have b4 : ∀ t, (WW t).cell? _ = _ := fun t => ((HWW t).cell (p := ⟨b', off' + j * 5 + 4, none⟩) hbl').trans f4
    have HWH := Lib.hid HWW
    have HW2' := Lib.hid HWW2
    have HCS : Hid (∀ t, Calls Tryz.prog 45 #[.agg #[s0, s1, s2, s3, s4], .agg #[t0, t1, t2, t3, t4]] (WW t) fun e w' => e = .returned (.bool true) ∧ ∃ t', w' = WW t') := Lib.hid (fun t => calls_class HW2'.out ((sameProc_self p (HAL.out p HM.out).1 s0 s1 s2 s3 s4 t0 t1 t2 t3 t4 B (WW t) (HR.out.kept ((HBW.out.trans ((HWH.out t).mono HBW.out.size)).mono hB)) (HR'.out.kept ((HBW.out.trans ((HWH.out t).mono HBW.out.size)).mono hB)) (by have := HBW.out.size; have := (HWH.out t).size; omega) (HAL.out p HM.out).2).mono fun e w' h => ⟨h.1, Below.next (HWH.out t) h.2⟩))
    clear HWW HWW2 e0 e1 e2 e3 e4 f0 f1 f2 f3 f4
    repeat (go_big_quiet_step (first | (go_at_call 45; exact HCS.out _) | fail))
    refine wpQuiet_nil ?_
    intro t
    have HN2 := Lib.hid (HW.out.trans ((HWH.out t).mono HW.out.size))
    clear x1 y1 a0 a1 a2 a3 a4 b0 b1 b2 b3 b4 HCS
    go_wp2_with fail
    go_roundg (np - (j + 1))
    case measure => omega
    case rel => exact ⟨j + 1, rfl, by omega, by go_num, HN2⟩
  ·have x1 := HXR.out.cell 1 rfl
   have xl := HXR.out.lt
   go_wp2_with fail
   go_ret
   exact ⟨rfl, HBW.out⟩
end
end Go.Proofs.YtigkhmppnnljiaaGreatDoor

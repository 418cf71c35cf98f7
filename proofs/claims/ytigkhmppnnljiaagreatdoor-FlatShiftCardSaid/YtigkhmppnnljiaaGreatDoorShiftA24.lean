/-
  What the proofs lean on: Lay1, TurnT, SameU, ChkL.
-/
import Derived.BigQuiet
import Derived.Deep.RegionWith
import Derived.Test.YtigkhmppnnljiaaGreatDoorShiftA08
import Derived.Test.YtigkhmppnnljiaaGreatDoorShiftA09
import Derived.Test.YtigkhmppnnljiaaGreatDoorShiftA23
namespace Go.Proofs.YtigkhmppnnljiaaGreatDoor
open Go Go.RowKit

set_option maxHeartbeats 2000000 in
set_option maxRecDepth 100000 in
theorem lay1_jmp (pb cb mb g n cap k : Nat) (r q : Int) (mv : Value) (w : World) (L : List Value)
    (hp : BoxL w pb 107 [.pointer (some ⟨mb, 0, none⟩)]) (hc : BoxL w cb 3 [.int .i64 k]) (hm : BoxL w mb 110 [.slice (some ⟨g, 0, none⟩) n cap, .int .i64 r, mv]) (hg : BoxL w g 34 L)
    (h0 : L[k * 5]? = some (.int .i64 15)) (h2 : L[k * 5 + 2]? = some (.int .i64 q)) (hk : k < n) (_hn : n ≤ 1000000) :
    Calls Tryz.prog 165 #[.pointer (some ⟨pb, 0, none⟩), .pointer (some ⟨cb, 0, none⟩)] w fun e w' => e = .returned (.tuple #[]) ∧ ∃ j, w' = (w.drewN j).setCell ⟨g, k * 5 + 2, none⟩ (.int .i64 n) := by
  have p0 := hp.cell 0 rfl
  have pl := hp.lt
  have c0 := hc.cell 0 rfl
  have cl := hc.lt
  have m0 := hm.cell 0 rfl
  have ml := hm.lt
  have g0 := hg.cell (k * 5) h0
  have g2 := hg.cell (k * 5 + 2) h2
  have f2 := hg.free (k * 5 + 2)
  have gl := hg.lt
  clear hp hc hm hg h0 h2
  go_enter Tryz.func165, Tryz.ntmps165
  go_upto_region 0 with fail
  go_quiet (fail)
  go_upto_region 1 with fail
  go_region
  all_goals (go_wp2_with fail; go_end0; exact ⟨rfl, _, rfl⟩)

set_option maxHeartbeats 2000000 in
set_option maxRecDepth 100000 in
theorem lay1_jif (pb cb mb g n cap k : Nat) (r p q : Int) (mv : Value) (w : World) (L : List Value)
    (hp : BoxL w pb 107 [.pointer (some ⟨mb, 0, none⟩)]) (hc : BoxL w cb 3 [.int .i64 k]) (hm : BoxL w mb 110 [.slice (some ⟨g, 0, none⟩) n cap, .int .i64 r, mv]) (hg : BoxL w g 34 L)
    (h0 : L[k * 5]? = some (.int .i64 p)) (hne : p ≠ 15) (h3 : L[k * 5 + 3]? = some (.int .i64 q)) (hk : k < n) (_hn : n ≤ 1000000) :
    Calls Tryz.prog 165 #[.pointer (some ⟨pb, 0, none⟩), .pointer (some ⟨cb, 0, none⟩)] w fun e w' => e = .returned (.tuple #[]) ∧ ∃ j, w' = (w.drewN j).setCell ⟨g, k * 5 + 3, none⟩ (.int .i64 n) := by
  have p0 := hp.cell 0 rfl
  have pl := hp.lt
  have c0 := hc.cell 0 rfl
  have cl := hc.lt
  have m0 := hm.cell 0 rfl
  have ml := hm.lt
  have g0 := hg.cell (k * 5) h0
  have g3 := hg.cell (k * 5 + 3) h3
  have f3 := hg.free (k * 5 + 3)
  have gl := hg.lt
  have fp : (p == 15) = false := by simpa using hne
  clear hp hc hm hg h0 h3 hne
  go_enter Tryz.func165, Tryz.ntmps165
  go_upto_region 0 with fail
  go_quiet (fail)
  go_upto_region 2 with fail
  go_region
  all_goals (go_wp2_with fail; go_end0; exact ⟨rfl, _, rfl⟩)
end Go.Proofs.YtigkhmppnnljiaaGreatDoor

namespace Go.Proofs.YtigkhmppnnljiaaGreatDoor
open Go

def turnT (ops : Array Oper) (n m p : Nat) (U : Nat → Bool) : Bool := monoB ops n m && (freeN ops n p U && !U p)
where
  freeN (ops : Array Oper) (n p : Nat) (U : Nat → Bool) : Bool := (List.range n).all fun i => decide (i = p) || match ops[i]? with | some o => o.after.all fun e => !Region.binds .any e || !U e.on | none => true

theorem wp_region_turnT {P : Program} {id : Nat} {Q : Exit → Act → World → Prop} {a0 : Act} {w : World} {l : List Oper} (n p : Nat) (U : Nat → Bool) (R : Nat → Value → World → Prop) (Ext Ext' : World → World → Prop) (hm : P.follows .mixedOrders = true) (hB : turnT l.toArray n a0.tmps.size p U = true)
    (htr : ∀ {A B C : World}, Ext A B → Ext B C → Ext A C) (htr' : ∀ {A B C : World}, Ext' A B → Ext' B C → Ext' A C) (hE : ∀ {A B : World}, Ext w.drew A → Ext' A B → Ext A B) (h0 : Ext w.drew w.drew) (h0' : Ext' w.drew w.drew)
    (hR : ∀ i v A B, i ≠ p → U i = false → R i v A → Ext A B → R i v B) (hU : ∀ i v A B, U i = true → R i v A → Ext' A B → R i v B) (hRp : ∀ v A B, R p v A → Ext' A B → R p v B)
    (hops : ∀ i o, i < n → l.toArray[i]? = some o → ∀ (a : Act) (w1 : World), a.defers = a0.defers → a.tmps.size = a0.tmps.size → Ext w.drew w1 → (i = p → Ext' w.drew w1) → (∀ j oj d, j < n → l.toArray[j]? = some oj → (∃ e ∈ o.after, Region.binds .any e = true ∧ e.on = j) → oj.dst = some d → R j (a.tmps.getD d undef) w1) → Rest l.toArray n a0 a →
      wpList P l.toArray (StepPost R (if i = p then Ext else Ext') i o a w1) [o] a w1)
    (hend : ∀ a w1, a.defers = a0.defers → a.tmps.size = a0.tmps.size → Ext w.drew w1 → (∀ i o d, i < n → U i = false → l.toArray[i]? = some o → o.dst = some d → R i (a.tmps.getD d undef) w1) → Rest l.toArray n a0 a → wpList P l.toArray Q (l.drop n) a w1) :
    (Code.region id l.toArray true).wp P Q a0 w := by
  simp only [turnT, Bool.and_eq_true] at hB
  obtain ⟨hmono, hfr, hUp⟩ := hB
  have hUp : U p = false := by simpa using hUp
  have hB' := hmono
  simp only [monoB, monoG, Bool.and_eq_true, decide_eq_true_eq] at hB'
  obtain ⟨⟨_, _, _, hn, hsl, _⟩, hgd⟩ := hB'
  have hfree : ∀ i o, i < n → l.toArray[i]? = some o → i ≠ p → ∀ e ∈ o.after, Region.binds .any e = true → U e.on = false := fun i o hi ho hip e he hb => by
    have h1 := List.all_eq_true.1 hfr i (List.mem_range.2 hi)
    simp only [ho, Bool.or_eq_true, decide_eq_true_eq, hip, false_or] at h1
    have h2 := Array.all_eq_true_iff_forall_mem.1 h1 e he
    simpa [hb] using h2
  refine wp_region_inv n (fun listed a W => Ext w.drew W ∧ (listed.getD p false = false → Ext' w.drew W) ∧ ∀ i o d, i < n → l.toArray[i]? = some o → listed.getD i false = true → o.dst = some d → (U i = false ∨ listed.getD p false = false) → R i (a.tmps.getD d undef) W) hm hmono ⟨h0, fun _ => h0', fun i o d _ _ h => by rw [getD_replicate_false] at h; cases h⟩ ?_ ?_
  · intro i o hi ho listed a w1 hls hdf hsz hrest ⟨hex, hex', hval⟩ hun hdeps
    have hg : Region.wanted o (yielded l.toArray a.tmps) = true := by simp [Region.wanted, no_guard hgd hi ho]
    have hlt : i < listed.size := by rw [hls]; omega
    have hstep := hops i o hi ho a w1 hdf hsz hex (fun e => hex' (by rw [← e]; exact hun)) (fun j oj d hj hoj ⟨e, he, hb, hon⟩ hd => hval j oj d hj hoj (by have := hdeps e he hb; rwa [hon] at this) hd (by
      by_cases hip : i = p
      · exact .inr (by rw [← hip]; exact hun)
      · exact .inl (by rw [← hon]; exact hfree i o hi ho hip e he hb))) hrest
    unfold wpList
    rw [if_pos hg]
    left
    refine Oper.wp_mono ?_ (wp_of_list (ops := l.toArray) (K := fun a' w' => ∃ v, a' = a.put o.dst v ∧ R i v w' ∧ (if i = p then Ext else Ext') w1 w') hg hstep)
    rintro a' w' ⟨v, rfl, hv, hx⟩
    have hx' : Ext w1 w' := by
      by_cases e : i = p
      · rwa [if_pos e] at hx
      · rw [if_neg e] at hx; exact hE hex hx
    refine ⟨rfl, v, rfl, htr hex hx', fun hl => ?_, fun j oj d hj hoj hl hd hor => ?_⟩
    · by_cases e : i = p
      · subst e
        simp [hlt] at hl
      · rw [if_neg e] at hx
        rw [getD_set_ne false e] at hl
        exact htr' (hex' hl) hx
    · by_cases e : i = j
      · subst e
        obtain rfl : oj = o := Option.some.inj (hoj.symm.trans ho)
        have hd' := (slots_at hsl hi hi ho ho hd hd).1
        rw [hd, put_getD (by rw [hsz]; exact hd'), if_pos rfl]
        exact hv
      · rw [getD_set_ne false e] at hl
        have hor' : U j = false ∨ listed.getD p false = false := by
          rcases hor with h | h
          · exact .inl h
          · refine .inr ?_
            by_cases e' : i = p
            · subst e'
              simp [hlt] at h
            · rwa [getD_set_ne false e'] at h
        have hold := hval j oj d hj hoj hl hd hor'
        have hsame : (a.put o.dst v).tmps.getD d undef = a.tmps.getD d undef := by
          cases hdo : o.dst with
          | none => rfl
          | some d' =>
            obtain ⟨hd', hne⟩ := slots_at hsl hi hj ho hoj hdo hd
            rw [put_getD (by rw [hsz]; exact hd'), if_neg (hne.resolve_left e)]
        rw [hsame]
        by_cases ep : j = p
        · subst ep
          rw [if_neg e] at hx
          exact hRp _ _ _ hold hx
        · cases hu : U j with
          | false => exact hR j _ _ _ ep hu hold hx'
          | true =>
            rcases hor with h | h
            · rw [hu] at h; cases h
            · have hip : i ≠ p := fun e' => by subst e'; simp [hlt] at h
              rw [if_neg hip] at hx
              exact hU j _ _ _ hu hold hx
  · intro listed a w1 hall hdf hsz hrest ⟨hex, _, hval⟩
    exact hend a w1 hdf hsz hex (fun i o d hi hu ho hd => hval i o d hi ho (hall i hi) hd (.inl hu)) hrest
end Go.Proofs.YtigkhmppnnljiaaGreatDoor

namespace Go.Proofs.YtigkhmppnnljiaaGreatDoor
open Go Go.RowKit

set_option maxHeartbeats 4000000 in
set_option maxRecDepth 100000 in
theorem consts_self (l : List Dat) (v u : Value) (B : Nat) (w : World) (hv : RepS w B l v) (hu : RepS w B l u) (hB : B ≤ w.heap.size) :
    Calls Tryz.prog 44 #[v, u] w fun e w' => e = .returned (.bool true) ∧ Below w.heap.size w w' := by
  obtain ⟨o1, n1, c1, rfl, hn1, hc1, hm1, hk1⟩ := hv
  obtain ⟨o2, n2, c2, rfl, hn2, hc2, hm2, hk2⟩ := hu
  have HK1 := Lib.hid hk1
  have HK2 := Lib.hid hk2
  have HN1 := Lib.hid hn1
  obtain rfl : n1 = n2 := by rw [hn1, hn2]
  clear hk1 hk2 hn1 hn2
  go_enter Tryz.func44, Tryz.ntmps44
  go_wp2_with fail
  go_loopg [5] n1 (fun g i wr => ∃ j : Nat, g = n1 - j ∧ j ≤ n1 ∧ i = .int .i64 j ∧ Hid (Below w.heap.size w wr))
  case atStart => exact ⟨0, rfl, by omega, rfl, Lib.hid (Below.refl _ _)⟩
  case round =>
    obtain ⟨j, rfl, hj, rfl, HW⟩ := hrel
    by_cases hjl : j < n1
    · obtain ⟨x, hx⟩ : ∃ x, l[j]? = some x := ⟨_, List.getElem?_eq_getElem (by rw [← HN1.out]; exact hjl)⟩
      obtain ⟨b, off, k', n', d', s', l', o', len', cap', ho, hxe, e0, e1, e2, e3, e4, er⟩ := part_at2 HK1.out (HW.out.mono hB) hx
      obtain ⟨b', off', k'', n'', d'', s'', l'', o'', len'', cap'', ho', hxe', f0, f1, f2, f3, f4, fr⟩ := part_at2 HK2.out (HW.out.mono hB) hx
      subst ho ho'
      have hbl := cell_lt e0
      have hbl' := cell_lt f0
      have HER := Lib.hid er
      have HFR := Lib.hid fr
      have hxx := hxe.symm.trans hxe'
      have HXX := Lib.hid hxx
      have HD := Lib.hid ((Below.refl wr.heap.size wr).drew)
      have hzw : B ≤ wr.heap.size := Nat.le_trans hB HW.out.size
      clear hx hxe hxe' er fr hxx
      go_wp2_with fail
      refine wp_region_quiet_all (Below wr.heap.size wr) (by kernel_rfl) (by kernel_rfl) HD.out ?_
      intro T0 _ WW HWW HWW2
      have a0 : ∀ t, (WW t).cell? _ = _ := fun t => ((HWW t).cell (p := ⟨b, off + j * 5, none⟩) hbl).trans e0
      have a1 : ∀ t, (WW t).cell? _ = _ := fun t => ((HWW t).cell (p := ⟨b, off + j * 5 + 1, none⟩) hbl).trans e1
      have a2 : ∀ t, (WW t).cell? _ = _ := fun t => ((HWW t).cell (p := ⟨b, off + j * 5 + 2, none⟩) hbl).trans e2
      have a3 : ∀ t, (WW t).cell? _ = _ := fun t => ((HWW t).cell (p := ⟨b, off + j * 5 + 3, none⟩) hbl).trans e3
      have a4 : ∀ t, (WW t).cell? _ = _ := fun t => ((HWW t).cell (p := ⟨b, off + j * 5 + 4, none⟩) hbl).trans e4
      have b0 : ∀ t, (WW t).cell? _ = _ := fun t => ((HWW t).cell (p := ⟨b', off' + j * 5, none⟩) hbl').trans f0
      have b1 : ∀ t, (WW t).cell? _ = _ := fun t => ((HWW t).cell (p := ⟨b', off' + j * 5 + 1, none⟩) hbl').trans f1
      have b2 : ∀ t, (WW t).cell? _ = _ := fun t => ((HWW t).cell (p := ⟨b', off' + j * 5 + 2, none⟩) hbl').trans f2
      have b3 : ∀ t, (WW t).cell? _ = _ := fun t => ((HWW t).cell (p := ⟨b', off' + j * 5 + 3, none⟩) hbl').trans f3
      have b4 : ∀ t, (WW t).cell? _ = _ := fun t => ((HWW t).cell (p := ⟨b', off' + j * 5 + 4, none⟩) hbl').trans f4
      have HWH := Lib.hid HWW
      have HW2 := Lib.hid HWW2
      have HC : Hid (∀ t, Calls Tryz.prog 77 #[.agg #[.int .i64 k', .int .i64 n', .int .i64 d', .string s', .slice o' len' cap'], .agg #[.int .i64 k'', .int .i64 n'', .int .i64 d'', .string s'', .slice o'' len'' cap'']] (WW t) fun e w' => e = .returned (.bool true) ∧ ∃ t', w' = WW t') := Lib.hid (fun t => calls_class HW2.out ((ralike_to _ _ _ _ B (WW t) true (by rw [← HXX.out]; exact Dat.alike_self _) (HER.out.kept ((HWH.out t).mono hzw)) (HFR.out.kept ((HWH.out t).mono hzw)) (Nat.le_trans hzw (HWH.out t).size)).mono fun e w' h => ⟨h.1, Below.next (HWH.out t) h.2⟩))
      clear HWW HWW2 e0 e1 e2 e3 e4 f0 f1 f2 f3 f4
      repeat (go_big_quiet_step (first | (go_at_call 77; exact HC.out _) | fail))
      refine wpQuiet_nil ?_
      intro t
      have HN := Lib.hid (HW.out.trans ((HWH.out t).mono HW.out.size))
      clear a0 a1 a2 a3 a4 b0 b1 b2 b3 b4 HC
      go_wp2_with fail
      go_roundg (n1 - (j + 1))
      case measure => omega
      case rel => exact ⟨j + 1, rfl, by omega, by go_num, HN⟩
    · go_wp2_with fail
      go_ret
      exact ⟨rfl, HW.out⟩

set_option maxHeartbeats 4000000 in
set_option maxRecDepth 100000 in
theorem same_self (u : Unt) (v v' : Value) (B : Nat) (w : World) (hv : UntR w B u v) (hv' : UntR w B u v') (hB : B ≤ w.heap.size) (hp : ∀ p ∈ u.procs, p.alive = [] ∧ p.code.length ≤ 100000) :
    Calls Tryz.prog 17 #[v, v'] w fun e w' => e = .returned (.bool true) ∧ Below w.heap.size w w' := by
  obtain ⟨cv, pv, rfl, hc, hpr⟩ := hv
  obtain ⟨cv', pv', rfl, hc', hpr'⟩ := hv'
  have HC := Lib.hid hc
  have HC' := Lib.hid hc'
  obtain ⟨o0, l0, c0, rfl, hx0⟩ := hc
  obtain ⟨o0', l0', c0', rfl, hx0'⟩ := hc'
  obtain ⟨o1, np, c1, rfl⟩ := hpr.form
  obtain ⟨o1', np', c1', rfl⟩ := hpr'.form
  obtain rfl : np = np' := by rw [hpr.lens.1, hpr'.lens.1]
  have HP := Lib.hid hpr
  have HP' := Lib.hid hpr'
  have HN := Lib.hid hpr.lens.1
  have HAL := Lib.hid hp
  have hl1 := hpr.lens.2
  have hl2 := hpr'.lens.2
  clear hx0 hx0' hpr hpr' hp
  obtain ⟨W2, hW2⟩ : ∃ W2, (w.alloc (.cells #[.slice o0 l0 c0, .slice o1 np c1] 25)).alloc (.cells #[.slice o0' l0' c0', .slice o1' np c1'] 25) = W2 := ⟨_, rfl⟩
  have HB2 := Lib.hid (show Below w.heap.size w W2 from by rw [← hW2]; exact (Below.one w _).trans ((Below.one _ _).mono (by simp)))
  have HX := Lib.hid (show BoxL W2 w.heap.size 25 [.slice o0 l0 c0, .slice o1 np c1] from by rw [← hW2]; exact (BoxL.new rfl _ _).alloc _)
  have HX' := Lib.hid (show BoxL W2 (w.heap.size + 1) 25 [.slice o0' l0' c0', .slice o1' np c1'] from by rw [← hW2]; exact BoxL.new (by simp) _ _)
  have HW2 := Lib.hid hW2
  have HCC := Lib.hid (consts_self u.consts _ _ B W2 (HC.out.kept (HB2.out.mono hB)) (HC'.out.kept (HB2.out.mono hB)) (Nat.le_trans hB HB2.out.size))
  clear hW2
  go_enter Tryz.func17, Tryz.ntmps17
  go_upto_region 1 with fail
  rw [HW2.out]
  have x0 := HX.out.cell 0 rfl
  have xl := HX.out.lt
  have y0 := HX'.out.cell 0 rfl
  have yl := HX'.out.lt
  go_wp2_with fail
  with_reducible refine HCC.out.mono ?_
  rintro e w3 ⟨rfl, hb3⟩
  have HB3 := Lib.hid (HB2.out.trans (hb3.mono HB2.out.size))
  have HX3 := Lib.hid (HX.out.keep hb3)
  have HX3' := Lib.hid (HX'.out.keep hb3)
  clear hb3 HCC x0 xl y0 yl
  have x1 := HX3.out.cell 1 rfl
  have xl := HX3.out.lt
  have y1 := HX3'.out.cell 1 rfl
  have yl := HX3'.out.lt
  go_wp2_with fail
  go_loopg [5] np (fun g i wr => ∃ j : Nat, g = np - j ∧ j ≤ np ∧ i = .int .i64 j ∧ Hid (Below w3.heap.size w3 wr))
  case atStart => exact ⟨0, rfl, by omega, rfl, Lib.hid (Below.refl _ _)⟩
  case round =>
    obtain ⟨j, rfl, hj, rfl, HW⟩ := hrel
    clear x1 xl y1 yl
    have HBW := Lib.hid (HB3.out.trans (HW.out.mono HB3.out.size))
    have HXR := Lib.hid (HX3.out.keep HW.out)
    have HXR' := Lib.hid (HX3'.out.keep HW.out)
    by_cases hjl : j < np
    · obtain ⟨p, hx⟩ : ∃ p, u.procs[j]? = some p := ⟨_, List.getElem?_eq_getElem (by rw [← HN.out]; exact hjl)⟩
      have hmem := List.mem_of_getElem? hx
      obtain ⟨b, off, cs, ho, _, hcl, hcell, hr⟩ := HP.out.at (HBW.out.mono hB) hx
      obtain ⟨b', off', cs', ho', _, hcl', hcell', hr'⟩ := HP'.out.at (HBW.out.mono hB) hx
      subst ho ho'
      match cs, hcl, cs', hcl' with
      | [s0, s1, s2, s3, s4], _, [t0, t1, t2, t3, t4], _ =>
        have e0 := hcell 0 _ rfl
        have e1 := hcell 1 _ rfl
        have e2 := hcell 2 _ rfl
        have e3 := hcell 3 _ rfl
        have e4 := hcell 4 _ rfl
        have f0 := hcell' 0 _ rfl
        have f1 := hcell' 1 _ rfl
        have f2 := hcell' 2 _ rfl
        have f3 := hcell' 3 _ rfl
        have f4 := hcell' 4 _ rfl
        simp only [Nat.add_zero] at e0 f0
        have hbl := cell_lt e0
        have hbl' := cell_lt f0
        have HR := Lib.hid hr
        have HR' := Lib.hid hr'
        have HM := Lib.hid hmem
        have HD := Lib.hid ((Below.refl wr.heap.size wr).drew)
        clear hx hmem hcell hcell' hr hr'
        have x1 := HXR.out.cell 1 rfl
        have xl := HXR.out.lt
        go_upto_region 6 with fail
        clear x1 xl
        refine wp_region_quiet_all (Below wr.heap.size wr) (by kernel_rfl) (by kernel_rfl) HD.out ?_
        intro T0 _ WW HWW HWW2
        have x1 : ∀ t, (WW t).cell? _ = _ := fun t => ((HWW t).cell (p := ⟨w.heap.size, 1, none⟩) HXR.out.lt).trans (HXR.out.cell 1 rfl)
        have y1 : ∀ t, (WW t).cell? _ = _ := fun t => ((HWW t).cell (p := ⟨w.heap.size + 1, 1, none⟩) HXR'.out.lt).trans (HXR'.out.cell 1 rfl)
        have a0 : ∀ t, (WW t).cell? _ = _ := fun t => ((HWW t).cell (p := ⟨b, off + j * 5, none⟩) hbl).trans e0
        have a1 : ∀ t, (WW t).cell? _ = _ := fun t => ((HWW t).cell (p := ⟨b, off + j * 5 + 1, none⟩) hbl).trans e1
        have a2 : ∀ t, (WW t).cell? _ = _ := fun t => ((HWW t).cell (p := ⟨b, off + j * 5 + 2, none⟩) hbl).trans e2
        have a3 : ∀ t, (WW t).cell? _ = _ := fun t => ((HWW t).cell (p := ⟨b, off + j * 5 + 3, none⟩) hbl).trans e3
        have a4 : ∀ t, (WW t).cell? _ = _ := fun t => ((HWW t).cell (p := ⟨b, off + j * 5 + 4, none⟩) hbl).trans e4
        have b0 : ∀ t, (WW t).cell? _ = _ := fun t => ((HWW t).cell (p := ⟨b', off' + j * 5, none⟩) hbl').trans f0
        have b1 : ∀ t, (WW t).cell? _ = _ := fun t => ((HWW t).cell (p := ⟨b', off' + j * 5 + 1, none⟩) hbl').trans f1
        have b2 : ∀ t, (WW t).cell? _ = _ := fun t => ((HWW t).cell (p := ⟨b', off' + j * 5 + 2, none⟩) hbl').trans f2
        have b3 : ∀ t, (WW t).cell? _ = _ := fun t => ((HWW t).cell (p := ⟨b', off' + j * 5 + 3, none⟩) hbl').trans f3
        have b4 : ∀ t, (WW t).cell? _ = _ := fun t => ((HWW t).cell (p := ⟨b', off' + j * 5 + 4, none⟩) hbl').trans f4
        have HWH := Lib.hid HWW
        have HW2' := Lib.hid HWW2
        have HCS : Hid (∀ t, Calls Tryz.prog 45 #[.agg #[s0, s1, s2, s3, s4], .agg #[t0, t1, t2, t3, t4]] (WW t) fun e w' => e = .returned (.bool true) ∧ ∃ t', w' = WW t') := Lib.hid (fun t => calls_class HW2'.out ((sameProc_self p (HAL.out p HM.out).1 s0 s1 s2 s3 s4 t0 t1 t2 t3 t4 B (WW t) (HR.out.kept ((HBW.out.trans ((HWH.out t).mono HBW.out.size)).mono hB)) (HR'.out.kept ((HBW.out.trans ((HWH.out t).mono HBW.out.size)).mono hB)) (by have := HBW.out.size; have := (HWH.out t).size; omega) (HAL.out p HM.out).2).mono fun e w' h => ⟨h.1, Below.next (HWH.out t) h.2⟩))
        clear HWW HWW2 e0 e1 e2 e3 e4 f0 f1 f2 f3 f4
        repeat (go_big_quiet_step (first | (go_at_call 45; exact HCS.out _) | fail))
        refine wpQuiet_nil ?_
        intro t
        have HN2 := Lib.hid (HW.out.trans ((HWH.out t).mono HW.out.size))
        clear x1 y1 a0 a1 a2 a3 a4 b0 b1 b2 b3 b4 HCS
        go_wp2_with fail
        go_roundg (np - (j + 1))
        case measure => omega
        case rel => exact ⟨j + 1, rfl, by omega, by go_num, HN2⟩
    · have x1 := HXR.out.cell 1 rfl
      have xl := HXR.out.lt
      go_wp2_with fail
      go_ret
      exact ⟨rfl, HBW.out⟩
end Go.Proofs.YtigkhmppnnljiaaGreatDoor

namespace Go.Proofs.YtigkhmppnnljiaaGreatDoor
open Go Go.RowKit

/-- What right says of a term that is no Fix, behind its head. -/
def plainR (nc nk : Int) (fr : Bool) (sc : Int → Bool) (l v : List Int) (ts : List Trm) : Bool := okL nc nk fr sc l (ts.take (ts.length - 1)) && (Trm.newB (fun _ => false) (l ++ Trm.bndL (ts.take (ts.length - 1)) ++ v) && okL nc nk fr (Trm.addV sc v) (l ++ Trm.bndL (ts.take (ts.length - 1)) ++ v) (ts.drop (ts.length - 1)))

theorem TrmS.at0 {W : World} {B : Nat} {l : List Trm} {o : Option Addr} {len cap : Nat} (h : TrmS W B l (.slice o len cap)) {i : Nat} {x : Trm} (hx : l[i]? = some x) : ∃ b off, ∃ c0 c1 c2 c3 : Value, o = some ⟨b, off, none⟩ ∧ TrmR W B x [c0, c1, c2, c3] := by
  obtain ⟨b, off, cs, ho, hlt, hcl, hcell, hr⟩ := SlC.at h (Below.refl _ _) hx
  match cs, hcl with
  | [c0, c1, c2, c3], _ => exact ⟨b, off, c0, c1, c2, c3, ho, hr⟩
/-- All terms but the last's forerunners, as Go slices them. -/
def slv : Option Addr → Nat → Nat → Value
  | none, _, _ => .slice none 0 0
  | some a, lt, ct => .slice (some (if ct = lt - 1 then a else a.add ((lt - 1) * 4))) (lt - (lt - 1)) (ct - (lt - 1))
theorem slv_none {W : World} {B : Nat} {ts : List Trm} {lt ct : Nat} (h : TrmS W B ts (.slice none lt ct)) : lt = 0 ∧ ct = 0 := by
  obtain ⟨o', l', c', he, h1, _, _, h4⟩ := h
  simp only [Value.slice.injEq] at he
  obtain ⟨rfl, rfl, rfl⟩ := he
  exact ⟨by rw [h1, h4.1]; rfl, h4.2⟩
theorem slv_terms {W : World} {B : Nat} {ts : List Trm} {ot : Option Addr} {lt ct : Nat} (h : TrmS W B ts (.slice ot lt ct)) : TrmS W B (ts.drop (lt - 1)) (slv ot lt ct) := by
  have hl := (SlC.lens h).1
  have hc := (SlC.lens h).2.1
  have hm := (SlC.lens h).2.2
  cases ot with
  | none =>
    obtain ⟨rfl, rfl⟩ := slv_none h
    rw [List.eq_nil_of_length_eq_zero hl.symm]
    exact ⟨none, 0, 0, rfl, rfl, Nat.le_refl _, by omega, rfl, rfl⟩
  | some a =>
    by_cases h0 : lt = 0
    · subst h0
      rw [List.eq_nil_of_length_eq_zero hl.symm]
      exact ⟨_, _, _, rfl, rfl, by omega, by omega, fun h => absurd rfl h, fun i x hx => by simp at hx⟩
    · obtain ⟨L, rfl⟩ : ∃ L, lt = L + 1 := ⟨lt - 1, by omega⟩
      obtain ⟨x, hx⟩ : ∃ x, ts[L]? = some x := ⟨_, List.getElem?_eq_getElem (by omega)⟩
      obtain ⟨b, off, c0, c1, c2, c3, ho, _⟩ := TrmS.at0 h hx
      simp only [Option.some.injEq] at ho
      subst ho
      have h1 := SlC.drops (n := L) h (by omega)
      have h2 : SlC W B 4 (TrmR W B) (ts.drop L) (.slice (some ⟨b, off + L * 4, none⟩) 1 (ct - L)) := by simpa using h1
      have hne : ¬ ct = L := by omega
      show SlC W B 4 (TrmR W B) (ts.drop (L + 1 - 1)) (slv (some ⟨b, off, none⟩) (L + 1) ct)
      have h3 : slv (some ⟨b, off, none⟩) (L + 1) ct = .slice (some ⟨b, off + L * 4, none⟩) 1 (ct - L) := by
        simp only [slv, Nat.add_sub_cancel, if_neg hne]
        rw [add_none rfl, show L + 1 - L = 1 by omega]
      rw [h3, Nat.add_sub_cancel]
      exact h2
theorem okL_perm {nc nk : Int} {fr : Bool} {sc : Int → Bool} {l l' : List Int} (h : l.Perm l') {ts : List Trm} : okL nc nk fr sc l ts = okL nc nk fr sc l' ts := by
  unfold okL
  rw [Trm.newB_perm (h.append_right (Trm.bndL ts))]
theorem right_close {w10 w11 : World} {cb bb sb : Nat} {nc nk : Int} {fr : Bool} {size : Int} {l' v : List Int} {sc : Int → Bool} (hcs : ChkS w10 cb bb sb nc nk fr size l' (Trm.addV sc v)) (hm : MapVB w11 sb l'.length (fun x => Trm.addV sc v x && !v.contains x)) (ht : Turned (fun b => b = sb) w10 w11) (hd : ∀ x, sc x = true → x ∉ v) : ChkS w11 cb bb sb nc nk fr size l' sc := by
  refine ⟨ht.box hcs.box (fun e => map_box_ne hcs.scope hcs.box e), hcs.bound.same (ht.block _ hcs.bound.lt (fun e => hcs.ne e)), ?_, hcs.new, hcs.ne⟩
  have e : sc = fun x => Trm.addV sc v x && !v.contains x := by
    funext x
    by_cases hx : x ∈ v
    · have : sc x = false := by
        cases h : sc x with
        | false => rfl
        | true => exact absurd hx (hd x h)
      simp [Trm.addV, hx, this]
    · simp [Trm.addV, hx]
  rw [e]
  exact hm
theorem GoodR.keep {w w' : World} {cb bb sb : Nat} {nc nk : Int} {fr : Bool} {size : Int} {l b : List Int} {sc : Int → Bool} (h : GoodR cb bb sb nc nk fr size l b sc w) (hb : Below w.heap.size w w') : GoodR cb bb sb nc nk fr size l b sc w' := let ⟨l', hp, hc⟩ := h; ⟨l', hp, hc.keep hb⟩
end Go.Proofs.YtigkhmppnnljiaaGreatDoor

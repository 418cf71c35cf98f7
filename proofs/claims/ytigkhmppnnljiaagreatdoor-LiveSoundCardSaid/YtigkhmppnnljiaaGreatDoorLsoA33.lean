/-
  What the proofs lean on: TurnT, CloneC, Sound16, MkP, MkW.
-/
import Derived.Deep.LoopGhost
import Derived.Deep.RegionWith
import Derived.Test.YtigkhmppnnljiaaGreatDoorLsoA17
import Derived.Test.YtigkhmppnnljiaaGreatDoorLsoA25
import Derived.Test.YtigkhmppnnljiaaGreatDoorLsoA29
import Derived.Test.YtigkhmppnnljiaaGreatDoorLsoA30
import Derived.Test.YtigkhmppnnljiaaGreatDoorLsoA31
import Derived.Test.YtigkhmppnnljiaaGreatDoorLsoA32
set_option maxRecDepth 100000
set_option maxHeartbeats 16000000
namespace Go.Proofs.YtigkhmppnnljiaaGreatDoor
section
open Go
def turnT (ops : Array Oper) (n m p : Nat) (U : Nat → Bool) : Bool := monoB ops n m && (freeN ops n p U && !U p)
where
 freeN (ops : Array Oper) (n p : Nat) (U : Nat → Bool) : Bool := (List.range n).all fun i => decide (i = p) || match ops[i]? with | some o => o.after.all fun e => !Region.binds .any e || !U e.on | none => true
theorem wp_region_turnT {P : Program} {id : Nat} {Q : Exit → Act → World → Prop} {a0 : Act} {w : World} {l : List Oper} (n p : Nat) (U : Nat → Bool) (R : Nat → Value → World → Prop) (Ext Ext' : World → World → Prop) (hm : P.follows .mixedOrders = true) (hB : turnT l.toArray n a0.tmps.size p U = true)
  (htr : ∀ {A B C : World}, Ext A B → Ext B C → Ext A C) (htr' : ∀ {A B C : World}, Ext' A B → Ext' B C → Ext' A C) (hE : ∀ {A B : World}, Ext w.drew A → Ext' A B → Ext A B) (h0 : Ext w.drew w.drew) (h0' : Ext' w.drew w.drew)
  (hR : ∀ i v A B, i ≠ p → U i = false → R i v A → Ext A B → R i v B) (hU : ∀ i v A B, U i = true → R i v A → Ext' A B → R i v B) (hRp : ∀ v A B, R p v A → Ext' A B → R p v B)
  (hops : ∀ i o, i < n → l.toArray[i]? = some o → ∀ (a : Act) (w1 : World), a.defers = a0.defers → a.tmps.size = a0.tmps.size → Ext w.drew w1 → (i = p → Ext' w.drew w1) → (∀ j oj d, j < n → l.toArray[j]? = some oj → (∃ e ∈ o.after, Region.binds .any e = true ∧ e.on = j) → oj.dst = some d → R j (a.tmps.getD d undef) w1) → Rest l.toArray n a0 a →
   wpList P l.toArray (StepPost R (if i = p then Ext else Ext') i o a w1) [o] a w1)
  (hend : ∀ a w1, a.defers = a0.defers → a.tmps.size = a0.tmps.size → Ext w.drew w1 → (∀ i o d, i < n → U i = false → l.toArray[i]? = some o → o.dst = some d → R i (a.tmps.getD d undef) w1) → Rest l.toArray n a0 a → wpList P l.toArray Q (l.drop n) a w1) :
  (Code.region id l.toArray true).wp P Q a0 w := by
 simp only [turnT, Bool.and_eq_true] at hB
 obtain ⟨hmono, hfr, hUp⟩ := hB
 have hUp : U p = false := by simpa using hUp
 have hB' := hmono
 simp only [monoB, monoG, Bool.and_eq_true, decide_eq_true_eq] at hB'
 obtain ⟨⟨_, _, _, hn, hsl, _⟩, hgd⟩ := hB'
 have hfree : ∀ i o, i < n → l.toArray[i]? = some o → i ≠ p → ∀ e ∈ o.after, Region.binds .any e = true → U e.on = false := fun i o hi ho hip e he hb => by
  have h1 := List.all_eq_true.1 hfr i (List.mem_range.2 hi)
  simp only [ho, Bool.or_eq_true, decide_eq_true_eq, hip, false_or] at h1
  have h2 := Array.all_eq_true_iff_forall_mem.1 h1 e he
  simpa [hb] using h2
 refine wp_region_inv n (fun listed a W => Ext w.drew W ∧ (listed.getD p false = false → Ext' w.drew W) ∧ ∀ i o d, i < n → l.toArray[i]? = some o → listed.getD i false = true → o.dst = some d → (U i = false ∨ listed.getD p false = false) → R i (a.tmps.getD d undef) W) hm hmono ⟨h0, fun _ => h0', fun i o d _ _ h => by rw [getD_replicate_false] at h; cases h⟩ ?_ ?_
 ·intro i o hi ho listed a w1 hls hdf hsz hrest ⟨hex, hex', hval⟩ hun hdeps
  have hg : Region.wanted o (yielded l.toArray a.tmps) = true := by simp [Region.wanted, no_guard hgd hi ho]
  have hlt : i < listed.size := by rw [hls]; omega
  have hstep := hops i o hi ho a w1 hdf hsz hex (fun e => hex' (by rw [← e]; exact hun)) (fun j oj d hj hoj ⟨e, he, hb, hon⟩ hd => hval j oj d hj hoj (by have := hdeps e he hb; rwa [hon] at this) hd (by
   by_cases hip : i = p
   ·exact .inr (by rw [← hip]; exact hun)
   ·exact .inl (by rw [← hon]; exact hfree i o hi ho hip e he hb))) hrest
  unfold wpList
  rw [if_pos hg]
  left
  refine Oper.wp_mono ?_ (wp_of_list (ops := l.toArray) (K := fun a' w' => ∃ v, a' = a.put o.dst v ∧ R i v w' ∧ (if i = p then Ext else Ext') w1 w') hg hstep)
  rintro a' w' ⟨v, rfl, hv, hx⟩
  have hx' : Ext w1 w' := by
   by_cases e : i = p
   ·rwa [if_pos e] at hx
   ·rw [if_neg e] at hx; exact hE hex hx
  refine ⟨rfl, v, rfl, htr hex hx', fun hl => ?_, fun j oj d hj hoj hl hd hor => ?_⟩
  ·by_cases e : i = p
   ·subst e
    simp [hlt] at hl
   ·rw [if_neg e] at hx
    rw [getD_set_ne false e] at hl
    exact htr' (hex' hl) hx
  ·by_cases e : i = j
   ·subst e
    obtain rfl : oj = o := Option.some.inj (hoj.symm.trans ho)
    have hd' := (slots_at hsl hi hi ho ho hd hd).1
    rw [hd, put_getD (by rw [hsz]; exact hd'), if_pos rfl]
    exact hv
   ·rw [getD_set_ne false e] at hl
    have hor' : U j = false ∨ listed.getD p false = false := by
     rcases hor with h | h
     ·exact .inl h
     ·refine .inr ?_
      by_cases e' : i = p
      ·subst e'
       simp [hlt] at h
      ·rwa [getD_set_ne false e'] at h
    have hold := hval j oj d hj hoj hl hd hor'
    have hsame : (a.put o.dst v).tmps.getD d undef = a.tmps.getD d undef := by
     cases hdo : o.dst with
     | none => rfl
     | some d' =>
      obtain ⟨hd', hne⟩ := slots_at hsl hi hj ho hoj hdo hd
      rw [put_getD (by rw [hsz]; exact hd'), if_neg (hne.resolve_left e)]
    rw [hsame]
    by_cases ep : j = p
    ·subst ep
     rw [if_neg e] at hx
     exact hRp _ _ _ hold hx
    ·cases hu : U j with
     | false => exact hR j _ _ _ ep hu hold hx'
     | true =>
      rcases hor with h | h
      ·rw [hu] at h; cases h
      ·have hip : i ≠ p := fun e' => by subst e'; simp [hlt] at h
       rw [if_neg hip] at hx
       exact hU j _ _ _ hu hold hx
 ·intro listed a w1 hall hdf hsz hrest ⟨hex, _, hval⟩
  exact hend a w1 hdf hsz hex (fun i o d hi hu ho hd => hval i o d hi ho (hall i hi) hd (.inl hu)) hrest
end
section
open Go.RowKit
theorem codR_shape {w : World} {B : Nat} {c : Cod} {cs : List Value} (h : CodR w B c cs) : ∃ ov lv cv q r u q' r' u', cs = [.slice ov lv cv, .bool c.rest, .int .i64 c.body.op, .int .i64 c.body.n, .slice q r u, .slice q' r' u'] ∧ SlC w B 1 IntR c.v (.slice ov lv cv) ∧ TrmR w B c.body [.int .i64 c.body.op, .int .i64 c.body.n, .slice q r u, .slice q' r' u'] := by
 obtain ⟨vs, b0, b1, b2, b3, rfl, h1, h2⟩ := h
 obtain ⟨v, rest, ⟨op, n, bv, bt⟩⟩ := c
 obtain ⟨vs', ts', he, h3, h4, h5, h6⟩ := trmR_iff.1 h2
 simp only [List.cons.injEq, and_true] at he
 obtain ⟨rfl, rfl, rfl, rfl⟩ := he
 obtain ⟨ov, lv, cv, rfl⟩ := h1.form
 obtain ⟨q, r, u, rfl⟩ := h5.form
 obtain ⟨q', r', u', rfl⟩ := h6.form
 exact ⟨_, _, _, _, _, _, _, _, _, rfl, h1, h2⟩
end
section
open Go.RowKit
theorem sound16ref_any (u : Unt) (v : Value) (B : Nat) (w : World) (hv : UntR w B u v) (hB : B ≤ w.heap.size) (hs : Live.Short u) :
  Calls Tryz.prog 24 #[v] w fun e w' => e = .returned (.bool (Live.soundB u)) ∧ Below w.heap.size w w' := by
 obtain ⟨r, hr⟩ : ∃ r, Live.soundB u = r := ⟨_, rfl⟩
 rw [hr]
 have HV := Lib.hid hv
 obtain ⟨cv, pv, rfl, hc, hp⟩ := hv
 obtain ⟨op, np, cp, rfl, hnp, hcapp, hmaxp⟩ := hp.slice
 obtain ⟨ok, nk, ck, rfl, hcx⟩ := hc
 clear hcx
 have HC := Lib.hid (fun X => rcheck_any u _ B (w.alloc X) (HV.out.kept ((Below.one w X).mono hB)) (by simp; omega) (short_lists hs))
 have HNP := Lib.hid hnp
 have HP := Lib.hid hp
 have HSH := Lib.hid hs
 obtain ⟨q, hq⟩ : ∃ q, u.okB = q := ⟨_, rfl⟩
 obtain ⟨E, hE⟩ : ∃ E, u.err = E := ⟨_, rfl⟩
 rw [hE] at HC
 rw [Unt.err, hq] at hE
 have HQ := Lib.hid hq
 have HR := Lib.hid (show (q && u.procs.all Live.procSound) = r from by rw [← hr, Live.soundB, hq])
 clear hnp hr hq hp hs
 cases q with
 | false =>
  obtain rfl : (5 : Int) = E := hE
  obtain rfl : false = r := by rw [← HR.out]; rfl
  go_enter Tryz.func24, Tryz.ntmps24
  go_wp2_with fail
  refine (HC.out _).mono ?_
  rintro e w1 ⟨rfl, hb1⟩
  have HB1 := Lib.hid (one_below hb1)
  clear hb1 HC
  go_wp2_with fail
  go_ret
  exact ⟨rfl, HB1.out⟩
 | true =>
  obtain rfl : (0 : Int) = E := hE
  have HR2 := Lib.hid (show u.procs.all Live.procSound = r from by rw [← HR.out]; rfl)
  go_enter Tryz.func24, Tryz.ntmps24
  go_wp2_with fail
  refine (HC.out _).mono ?_
  rintro e w1 ⟨rfl, hb1⟩
  have HB1 := Lib.hid (one_below hb1)
  have BU := Lib.hid (show BoxL w1 w.heap.size 25 [.slice ok nk ck, .slice op np cp] from (BoxL.new rfl _ _).keep hb1)
  have u1 := BU.out.cell 1 rfl
  have hlt1 := BU.out.lt
  have HBB := Lib.hid (Below.refl w1.heap.size w1)
  clear hb1 HC
  go_wp2_with fail
  go_loopg [3] np (fun G i wr => ∃ j : Nat, G = np - j ∧ j ≤ np ∧ i = .int .i64 j ∧ Hid ((u.procs.take j).all Live.procSound = true) ∧ Hid (Below w1.heap.size w1 wr))
  case atStart => exact ⟨0, rfl, by omega, rfl, rfl, HBB⟩
  case round =>
   obtain ⟨j, rfl, hj, rfl, HA, HW⟩ := hrel
   clear HBB
   by_cases hjn : j < np
   ·obtain ⟨p, hx⟩ : ∃ p, u.procs[j]? = some p := ⟨_, List.getElem?_eq_getElem (by rw [← HNP.out]; exact hjn)⟩
    have hbw : Below B w wr := (HB1.out.trans (HW.out.mono HB1.out.size)).mono hB
    obtain ⟨b1, off1, cs, ho1, hbB, hcl, hcell, hpr⟩ := HP.out.at hbw hx
    subst ho1
    match cs, hcl with
    | [d0, d1, d2, d3, d4], _ =>
     have e0 := hcell 0 _ rfl
     have e1 := hcell 1 _ rfl
     have e2 := hcell 2 _ rfl
     have e3 := hcell 3 _ rfl
     have e4 := hcell 4 _ rfl
     rw [Nat.add_zero] at e0
     have hjl : j < u.procs.length := by rw [← HNP.out]; exact hjn
     have hw0 := wrongE_in HQ.out hjl
     have hbs := hbw.size
     have HBG := Lib.hid (begin16_any u _ j B wr (HV.out.kept hbw) (by omega) HSH.out)
     rw [hw0] at HBG
     have HLI := Lib.hid (Live.beginL_at hw0 hx)
     obtain ⟨bl, hbl⟩ : ∃ bl, Live.beginL u (j : Int) = bl := ⟨_, rfl⟩
     rw [hbl] at HBG HLI
     have HTK := Lib.hid (show u.procs.take (j + 1) = u.procs.take j ++ [p] from by rw [List.take_add_one, hx]; rfl)
     have HMEM := Lib.hid (List.mem_of_getElem? hx)
     have HPS := Lib.hid (show Live.procSound p = (match bl.getLast? with | none => true | some r => decide (r < p.args)) from by rw [Live.procSound, HLI.out]; rfl)
     obtain ⟨args, rest, regs, code, alive⟩ := p
     obtain ⟨sl, al, he, _, _, hsl, hal⟩ := hpr
     obtain ⟨oc, m, cc, rfl⟩ := hsl.form
     obtain ⟨oal, lal, cal, rfl⟩ := hal.form
     simp only [List.cons.injEq, and_true] at he
     obtain ⟨rfl, rfl, rfl, rfl, rfl⟩ := he
     have hbl1 := cell_lt e0
     have U0 := (BU.out.keep HW.out).cell 0 rfl
     have U1 := (BU.out.keep HW.out).cell 1 rfl
     have hul := (BU.out.keep HW.out).lt
     clear hcell hcl hsl hal hx hw0 hbl hjl
     go_wp2_with fail
     refine HBG.out.mono ?_
     rintro e w3 ⟨sv, rfl, hsb, hb3⟩
     obtain ⟨ob, lb, cb, rfl⟩ := hsb.form
     have HSB := Lib.hid hsb
     have HW3 := Lib.hid (Below.next HW.out hb3)
     have V1 := (BU.out.keep HW3.out).cell 1 rfl
     have hvl := (BU.out.keep HW3.out).lt
     have bx0 := keepC hb3 e0
     have HLB := Lib.hid hsb.lens.1
     have hbxl := cell_lt bx0
     clear hsb hb3 HBG e0 e1 e2 e3 e4 U0 U1
     by_cases hlb0 : lb = 0
     ·subst hlb0
      have HN := Lib.hid (show (u.procs.take (j + 1)).all Live.procSound = true from by
       have hbn : bl = [] := List.eq_nil_of_length_eq_zero HLB.out.symm
       rw [HTK.out, List.all_append, HA.out]
       simp [HPS.out, hbn])
      go_wp2_with fail
      go_region
      go_wp2_with fail
      go_roundg (np - (j + 1))
      case measure => omega
      case rel => exact ⟨j + 1, rfl, by omega, by go_num, HN, Lib.hid HW3.out.drew⟩
     ·obtain ⟨y, hy⟩ : ∃ y, bl[lb - 1]? = some y := ⟨_, List.getElem?_eq_getElem (by rw [← HLB.out]; omega)⟩
      obtain ⟨b4, off4, es, ho4, hb4, hel, hecell, hei⟩ := HSB.out.at (Below.refl _ _) hy
      subst ho4
      have g0 := hecell 0 (.int .i64 y) (by rw [hei.1]; rfl)
      rw [Nat.mul_one, Nat.add_zero] at g0
      have hlast : bl.getLast? = some y := by rw [List.getLast?_eq_getElem?, ← HLB.out]; exact hy
      have hcb := HSB.out.lens.2
      have d1 : decide (0 < lb) = true := decide_eq_true (by omega)
      have hlb1 : 0 < lb := by omega
      have d3 : (0 : Int) < (lb : Int) := by omega
      have HLS := Lib.hid hlast
      clear hlast hy hecell hei
      by_cases hya : args ≤ y
      ·have d2 : decide (args ≤ y) = true := decide_eq_true hya
       have HF := Lib.hid (show false = r from by
        rw [← HR2.out]
        symm
        rw [List.all_eq_false]
        exact ⟨_, HMEM.out, by rw [HPS.out, HLS.out]; simp; omega⟩)
       obtain rfl := HF.out
       have HB := Lib.hid (show Below w.heap.size w w3 from HB1.out.trans (HW3.out.mono HB1.out.size))
       go_wp2_with fail
       go_big_region
       go_wp2_with fail
       go_ret
       exact ⟨rfl, HB.out.drew⟩
      ·have d2 : decide (args ≤ y) = false := decide_eq_false hya
       have HN := Lib.hid (show (u.procs.take (j + 1)).all Live.procSound = true from by
        rw [HTK.out, List.all_append, HA.out]
        simp only [List.all_cons, List.all_nil, Bool.and_true, Bool.true_and]
        rw [HPS.out, HLS.out]
        simp; omega)
       go_wp2_with fail
       go_big_region
       go_wp2_with fail
       go_roundg (np - (j + 1))
       case measure => omega
       case rel => exact ⟨j + 1, rfl, by omega, by go_num, HN, Lib.hid HW3.out.drew⟩
   ·obtain rfl : j = np := by omega
    have HT := Lib.hid (show true = r from by
     have h := HA.out
     rw [List.take_of_length_le (by rw [← HNP.out]; exact Nat.le_refl _)] at h
     rw [← HR2.out, h])
    obtain rfl := HT.out
    have HB := Lib.hid (show Below w.heap.size w wr from HB1.out.trans (HW.out.mono HB1.out.size))
    have V1 := (BU.out.keep HW.out).cell 1 rfl
    have hvl := (BU.out.keep HW.out).lt
    go_wp2_with fail
    go_ret
    exact ⟨rfl, HB.out⟩
end
section
open Go Go.RowKit Mk
theorem CellsG.turn {α : Type} {size : Nat} {R : α → List Value → Prop} {f : α → α} {j : Nat} {u : Value} (hj : j < size) (hR : ∀ x cs, R x cs → cs.length = size → R (f x) (cs.set j u)) : ∀ {l : List α} {xs : List Value} {k : Nat}, CellsG size R l xs → k < l.length → CellsG size R (l.modify k f) (xs.set (k * size + j) u)
 | [], _, k, _, hk => by simp at hk
 | x :: l, xs, 0, ⟨cs, r, he, hs, hx, hr⟩, _ => by
  rw [List.modify_zero_cons, Nat.zero_mul, Nat.zero_add, he]
  exact ⟨cs.set j u, r, by rw [List.set_append_left _ _ (by omega)], by simp [hs], hR x cs hx hs, hr⟩
 | x :: l, xs, k + 1, ⟨cs, r, he, hs, hx, hr⟩, hk => by
  rw [List.modify_succ_cons, he]
  refine ⟨cs, r.set (k * size + j) u, ?_, hs, hx, CellsG.turn hj hR hr (by simpa using hk)⟩
  rw [List.set_append_right _ _ (by rw [hs, Nat.add_mul]; omega), hs, show (k + 1) * size + j - size = k * size + j by rw [Nat.add_mul]; omega]
end
section
open Go Go.RowKit Mk
theorem TrmR.shape {W : World} {B : Nat} {x : Trm} {c0 c1 c2 c3 : Value} (h : TrmR W B x [c0, c1, c2, c3]) : ∃ q r u q' r' u', c0 = .int .i64 x.op ∧ c1 = .int .i64 x.n ∧ c2 = .slice q r u ∧ c3 = .slice q' r' u' ∧ I64 x.n := by
 obtain ⟨op, n, v, t⟩ := x
 obtain ⟨vs', ts', he, _, hn, hvs, hts⟩ := trmR_iff.1 h
 simp only [List.cons.injEq, and_true] at he
 obtain ⟨rfl, rfl, rfl, rfl⟩ := he
 obtain ⟨q, r, u, rfl⟩ := hvs.form
 obtain ⟨q', r', u', rfl⟩ := hts.form
 exact ⟨_, _, _, _, _, _, rfl, rfl, rfl, rfl, hn⟩
theorem allT_append (lk : List (Int × Int) → Int → Int) : ∀ (a b : List Trm) (s : MSt), Mk.allT lk (a ++ b) s = ((Mk.allT lk a s).1 ++ (Mk.allT lk b (Mk.allT lk a s).2).1, (Mk.allT lk b (Mk.allT lk a s).2).2)
 | [], b, s => by simp [Mk.allT]
 | x :: a, b, s => by
  rw [List.cons_append, Mk.allT, Mk.allT]
  simp only [allT_append lk a b]
  rfl
theorem allT_snoc (lk : List (Int × Int) → Int → Int) {l : List Trm} {j : Nat} {x : Trm} (h : l[j]? = some x) (s : MSt) : Mk.allT lk (l.take (j + 1)) s = ((Mk.allT lk (l.take j) s).1 ++ [(Mk.had lk x (Mk.allT lk (l.take j) s).2).1], (Mk.had lk x (Mk.allT lk (l.take j) s).2).2) := by
 rw [List.take_add_one, h, allT_append]
 simp [Mk.allT, Mk.had]
theorem allT_length (lk : List (Int × Int) → Int → Int) : ∀ (l : List Trm) (s : MSt), (Mk.allT lk l s).1.length = l.length
 | [], s => by simp [Mk.allT]
 | x :: l, s => by rw [Mk.allT]; simp [allT_length lk l]
end
end Go.Proofs.YtigkhmppnnljiaaGreatDoor

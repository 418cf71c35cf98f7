/-
  What the proofs lean on: PClean, ChkB, MkExt.
-/
import Derived.Maps.OwnSet
import Derived.WideKeyEntry
import Derived.Deep.LoopGhost
import Derived.Deep.Cut
import Derived.Deep.CutRange
import Derived.Test.YtigkhmppnnljiaaGreatDoorPreA10
import Derived.Test.YtigkhmppnnljiaaGreatDoorPreA13
import Derived.Test.YtigkhmppnnljiaaGreatDoorPreA14
import Derived.Test.YtigkhmppnnljiaaGreatDoorPreA18
import Derived.Test.YtigkhmppnnljiaaGreatDoorPreA19
import Derived.Test.YtigkhmppnnljiaaGreatDoorPreA20
set_option maxRecDepth 100000
set_option maxHeartbeats 16000000
namespace Go.Proofs.YtigkhmppnnljiaaGreatDoor
section
open Go.RowKit
def BoolR (b : Bool) (cs : List Value) : Prop := cs = [.bool b]
def Inside (code : List Ins) : Prop := ∀ x ∈ code, (x.op = 15 → 0 ≤ x.a ∧ x.a < (code.length : Int)) ∧ (x.op = 16 → 0 ≤ x.b ∧ x.b < (code.length : Int))
def ReachedOk : Prop := ∀ (code : List Ins) (o : Option Addr) (len cap B : Nat) (w : World), SlC w B 5 (InsR w B) code (.slice o len cap) → B ≤ w.heap.size → Peep.Closed code → Inside code → code.length ≤ 100000 →
 Calls Tryz.prog 88 #[.slice o len cap] w fun e w' => ∃ v bs, e = .returned v ∧ SlC w' w'.heap.size 1 BoolR bs v ∧ bs.length = code.length ∧ (∀ k b, bs[k]? = some b → (b = true ↔ Peep.Reach code k)) ∧ Below w.heap.size w w'
theorem clean1_any (code : List Ins) (o : Option Addr) (len cap t cb B : Nat) (w : World) (hv : SlC w B 5 (InsR w B) code (.slice o len cap)) (hB : B ≤ w.heap.size) (hi : Inside code) (ht : t < code.length) (hm : code.length ≤ 100000) (hc : BoxL w cb 28 [.slice o len cap]) :
  Calls Tryz.prog 86 #[.int .i64 t, .pointer (some ⟨cb, 0, none⟩)] w fun e w' => e = .returned (.int .i64 (Peep.leads code code.length [t] t : Nat)) ∧ Below w.heap.size w w' := by
 have c0 := hc.cell 0 rfl
 have HC := Lib.hid (leads_any code o len cap t B w hv hB (fun x hx => (hi x hx).1) ht hm)
 clear hv hi hc ht
 go_enter Tryz.func86, Tryz.ntmps86
 go_wp2_with fail
 refine HC.out.mono ?_
 rintro e w1 ⟨rfl, hb1⟩
 go_wp2_with fail
 go_ret
 exact ⟨rfl, hb1⟩
def InsO (w : World) (base : Nat) (x : Ins) (cs : List Value) : Prop :=
 ∃ sl, cs = [.int .i64 x.op, .int .i64 x.d, .int .i64 x.a, .int .i64 x.b, sl] ∧ (-9223372036854775808 ≤ x.op ∧ x.op ≤ 9223372036854775807) ∧ (-9223372036854775808 ≤ x.d ∧ x.d ≤ 9223372036854775807) ∧
  (-9223372036854775808 ≤ x.a ∧ x.a ≤ 9223372036854775807) ∧ (-9223372036854775808 ≤ x.b ∧ x.b ≤ 9223372036854775807) ∧ w.ownsRow base 3 1 sl x.l.length (x.l.map (Value.int .i64)) ∧ ∀ y ∈ x.l, I64 y
theorem rows_apart {w : World} {b b' : Nat} {t t' : TypeId} {s s' n n' : Nat} {v v' : Value} {xs xs' : List Value} (h : w.ownsRow b t s v n xs) (h' : w.ownsRow b' t' s' v' n' xs') (hne : t ≠ t') : v.ownBlock = none ∨ v.ownBlock ≠ v'.ownBlock := by
 rcases h.2 with ⟨rfl, _⟩ | ⟨g, cap, cur, rfl, _, hg, _⟩
 ·exact .inl rfl
 ·right
  rcases h'.2 with ⟨rfl, _⟩ | ⟨g', cap', cur', rfl, _, hg', _⟩
  ·simp [Value.ownBlock]
  ·intro e
   simp only [Value.ownBlock, Option.some.injEq] at e
   subst e
   rw [hg] at hg'
   simp only [Option.some.injEq, Obj.cells.injEq] at hg'
   exact hne hg'.2.1
theorem InsO.grown {w w' : World} {base : Nat} {x : Ins} {cs : List Value} {row : Option Nat} (h : InsO w base x cs) (hg : w.grownBy w' row) (hrow : ∀ sl, w.ownsRow base 3 1 sl x.l.length (x.l.map (Value.int .i64)) → sl.ownBlock = none ∨ sl.ownBlock ≠ row) : InsO w' base x cs := by
 obtain ⟨sl, h0, h1, h2, h3, h4, h5, h6⟩ := h
 exact ⟨sl, h0, h1, h2, h3, h4, h5.kept hg (hrow sl h5), h6⟩
theorem InsO.keep {w w' : World} {base : Nat} {x : Ins} {cs : List Value} (h : InsO w base x cs) (hb : Below w.heap.size w w') : InsO w' base x cs := by
 obtain ⟨sl, h0, h1, h2, h3, h4, h5, h6⟩ := h
 exact ⟨sl, h0, h1, h2, h3, h4, ownsRow_keep h5 hb, h6⟩
theorem ownsRow_set {W : World} {base n size : Nat} {e : TypeId} {v : Value} {xs : List Value} (h : W.ownsRow base e size v n xs) (a : Addr) (u : Value) (hne : ∀ g, v.ownBlock = some g → g ≠ a.block) : (W.setCell a u).ownsRow base e size v n xs :=
 h.kept (row := some a.block) ⟨rfl, rfl, rfl, by simp, fun k _ hk => setCell_heap_other W a u (fun e => hk (by rw [e]))⟩ (by
  cases hv : v.ownBlock with
  | none => exact .inl rfl
  | some g => exact .inr (fun e => hne g hv (by simpa using e)))
theorem ownsRow_base {W : World} {base base' n size : Nat} {e : TypeId} {v : Value} {xs : List Value} (h : W.ownsRow base e size v n xs) (hb : base' ≤ base) : W.ownsRow base' e size v n xs := by
 refine ⟨h.1, ?_⟩
 rcases h.2 with h' | ⟨g, cap, cur, h1, h2, h3⟩
 ·exact .inl h'
 ·exact .inr ⟨g, cap, cur, h1, Nat.le_trans hb h2, h3⟩
theorem box_news {W : World} {b : Nat} {t : TypeId} {cs : List Value} (h : BoxL W b t cs) : ∀ (j : Nat) (u : Value), cs[j]? = some u → W.cell? ((⟨b, 0, none⟩ : Addr).add j) = some u := by
 intro j u hj
 rw [add_none rfl]
 simpa using h.cell j hj
theorem act_open32 {a : Act} (h : a.tmps.size = 32) (hd : a.defers = []) : ∃ x0 x1 x2 x3 x4 x5 x6 x7 x8 x9 x10 x11 x12 x13 x14 x15 x16 x17 x18 x19 x20 x21 x22 x23 x24 x25 x26 x27 x28 x29 x30 x31, a = { tmps := #[x0, x1, x2, x3, x4, x5, x6, x7, x8, x9, x10, x11, x12, x13, x14, x15, x16, x17, x18, x19, x20, x21, x22, x23, x24, x25, x26, x27, x28, x29, x30, x31], defers := [] } := by
 obtain ⟨⟨l⟩, d⟩ := a
 simp only at hd
 subst hd
 match l, h with
 | [x0, x1, x2, x3, x4, x5, x6, x7, x8, x9, x10, x11, x12, x13, x14, x15, x16, x17, x18, x19, x20, x21, x22, x23, x24, x25, x26, x27, x28, x29, x30, x31], _ => exact ⟨x0, x1, x2, x3, x4, x5, x6, x7, x8, x9, x10, x11, x12, x13, x14, x15, x16, x17, x18, x19, x20, x21, x22, x23, x24, x25, x26, x27, x28, x29, x30, x31, rfl⟩
def CleanR (_H cb : Nat) (vl : Value) (cs ds : List Value) (i : Nat) (v : Value) (W : World) : Prop := match i with
 | 0 => v = vl
 | 1 => v = .agg cs.toArray
 | 2 => v = .func (.func 86) #[] #[.pointer (some ⟨cb, 0, none⟩)]
 | 3 => v = .agg ds.toArray
 | _ => ∃ b, v = .slice (some ⟨b, 0, none⟩) 1 1 ∧ BoxL W b 34 ds
theorem cleanR_kept (H cb : Nat) (vl : Value) (cs ds : List Value) : ∀ i v A B, i < 5 → CleanR H cb vl cs ds i v A → Below A.heap.size A B → CleanR H cb vl cs ds i v B := by
 intro i v A B hi h hb
 match i, hi, h with
 | 0, _, h => exact h
 | 1, _, h => exact h
 | 2, _, h => exact h
 | 3, _, h => exact h
 | 4, _, ⟨b, h1, h2⟩ => exact ⟨b, h1, h2.keep hb⟩
theorem bool_at {w W : World} {B : Nat} {bs : List Bool} {o : Option Addr} {len cap k : Nat} {b : Bool} (h : SlC w B 1 BoolR bs (.slice o len cap)) (hb : Below B w W) (hx : bs[k]? = some b) : ∃ bb off, o = some ⟨bb, off, none⟩ ∧ bb < B ∧ W.cell? ⟨bb, off + k, none⟩ = some (.bool b) := by
 obtain ⟨bb, off, cs, ho, hB, hl, hc, hr⟩ := h.at hb hx
 unfold BoolR at hr
 subst hr
 have := hc 0 _ rfl
 rw [Nat.mul_one, Nat.add_zero] at this
 exact ⟨bb, off, ho, hB, this⟩
theorem clean2_any (met : Nat → Bool) (l : List Ins) (k : Nat) (x : Ins) (c0 c1 c2 c3 c4 : Value) (bs : List Bool) (o : Option Addr) (len cap mb B B2 : Nat) (w : World) (hx : l[k]? = some x) (hins : InsR w B x [c0, c1, c2, c3, c4]) (hm : SlC w B2 1 BoolR bs (.slice o len cap)) (_hB2 : B2 ≤ w.heap.size) (hbs : bs[k]? = some (met k)) (_hk : k ≤ 100000) (hbox : BoxL w mb 52 [.slice o len cap]) :
  Calls Tryz.prog 90 #[.int .i64 k, .agg #[c0, c1, c2, c3, c4], .pointer (some ⟨mb, 0, none⟩)] w fun e w' => e = .returned (.bool (Peep.gone1 met l k)) ∧ Below w.heap.size w w' := by
 obtain ⟨r, hr⟩ : ∃ r, Peep.gone1 met l k = r := ⟨_, rfl⟩
 rw [hr]
 obtain ⟨op, d, a, b, ll⟩ := x
 obtain ⟨sl, he, _, _, _, _, hsl⟩ := hins
 obtain ⟨o4, l4, c4', rfl⟩ := hsl.form
 simp only [List.cons.injEq, and_true] at he
 obtain ⟨rfl, rfl, rfl, rfl, rfl⟩ := he
 have HR := Lib.hid (show (!met k || (decide (op = 1) && decide (d = a))) = r from by rw [← hr, Peep.gone1, hx])
 obtain ⟨hlen, hcap, hmax⟩ := hm.lens
 have hkl : k < len := by rw [hlen]; exact (List.getElem?_eq_some_iff.1 hbs).1
 obtain ⟨q, hq⟩ : ∃ q, met k = q := ⟨_, rfl⟩
 rw [hq] at HR hbs
 obtain ⟨bb, off, rfl, hbB, hcb⟩ := bool_at hm (Below.refl _ _) hbs
 have m0 := hbox.cell 0 rfl
 have hml := hbox.lt
 have hbl := cell_lt hcb
 clear hr hx hsl hm hbs hbox hlen hq
 cases q with
 | false =>
  obtain rfl : true = r := HR.out
  go_enter Tryz.func90, Tryz.ntmps90
  go_wp2_with fail
  go_ret
  exact ⟨rfl, Below.one _ _⟩
 | true =>
  by_cases h1 : op = 1
  ·subst h1
   by_cases h2 : d = a
   ·subst h2
    obtain rfl : true = r := by rw [← HR.out]; simp
    go_enter Tryz.func90, Tryz.ntmps90
    go_wp2_with fail
    go_ret
    exact ⟨rfl, Below.one _ _⟩
   ·have f2 : (d == a) = false := by simpa using h2
    obtain rfl : false = r := by rw [← HR.out]; simp [h2]
    go_enter Tryz.func90, Tryz.ntmps90
    go_wp2_with fail
    go_ret
    exact ⟨rfl, Below.one _ _⟩
  ·have f1 : (op == 1) = false := by simpa using h1
   obtain rfl : false = r := by rw [← HR.out]; simp [h1]
   go_enter Tryz.func90, Tryz.ntmps90
   go_wp2_with fail
   go_ret
   exact ⟨rfl, Below.one _ _⟩
theorem clean3_any (l : List Ins) (k : Nat) (x : Ins) (c0 c1 c2 c3 c4 : Value) (o : Option Addr) (len cap lb B : Nat) (w : World) (hx : l[k]? = some x) (hins : InsR w B x [c0, c1, c2, c3, c4]) (hlen : len = l.length) (hm : len ≤ 100000) (hbox : BoxL w lb 28 [.slice o len cap]) :
  Calls Tryz.prog 91 #[.int .i64 k, .agg #[c0, c1, c2, c3, c4], .pointer (some ⟨lb, 0, none⟩)] w fun e w' => e = .returned (.bool (Peep.gone2 l k)) ∧ Below w.heap.size w w' := by
 obtain ⟨r, hr⟩ : ∃ r, Peep.gone2 l k = r := ⟨_, rfl⟩
 rw [hr]
 obtain ⟨op, d, a, b, ll⟩ := x
 obtain ⟨sl, he, _, _, ha, _, hsl⟩ := hins
 obtain ⟨o4, l4, c4', rfl⟩ := hsl.form
 simp only [List.cons.injEq, and_true] at he
 obtain ⟨rfl, rfl, rfl, rfl, rfl⟩ := he
 have hkl : k < len := by rw [hlen]; exact (List.getElem?_eq_some_iff.1 hx).1
 have HR := Lib.hid (show (decide (op = 15) && (decide (a = k + 1) && decide ((k : Int) < (len : Int) - 1))) = r from by rw [← hr, Peep.gone2, hx, ← hlen])
 have m0 := hbox.cell 0 rfl
 have hml := hbox.lt
 clear hr hx hsl hbox hlen
 by_cases h1 : op = 15
 ·subst h1
  by_cases h2 : a = (k : Int) + 1
  ·subst h2
   by_cases h3 : (k : Int) < (len : Int) - 1
   ·obtain rfl : true = r := by rw [← HR.out]; simp [h3]
    go_enter Tryz.func91, Tryz.ntmps91
    go_wp2_with fail
    go_ret
    exact ⟨by simp, Below.one _ _⟩
   ·obtain rfl : false = r := by rw [← HR.out]; simp [h3]
    go_enter Tryz.func91, Tryz.ntmps91
    go_wp2_with fail
    go_ret
    exact ⟨by simp, Below.one _ _⟩
  ·have f2 : (a == (k : Int) + 1) = false := by simpa using h2
   obtain rfl : false = r := by rw [← HR.out]; simp [h2]
   go_enter Tryz.func91, Tryz.ntmps91
   go_wp2_with fail
   go_ret
   exact ⟨rfl, Below.one _ _⟩
 ·have f1 : (op == 15) = false := by simpa using h1
  obtain rfl : false = r := by rw [← HR.out]; simp [h1]
  go_enter Tryz.func91, Tryz.ntmps91
  go_wp2_with fail
  go_ret
  exact ⟨rfl, Below.one _ _⟩
theorem InsO.insRgap {w : World} {base lo hi : Nat} {x : Ins} {cs : List Value} (h : InsO w base x cs) (hb : hi ≤ base) : InsR (gap w lo hi) w.heap.size x cs := by
 obtain ⟨sl, h0, h1, h2, h3, h4, h5, h6⟩ := h
 have := rowInts (ownsRow_gap (lo := lo) h5 hb) h6
 rw [gap_size] at this
 exact ⟨sl, h0, h1, h2, h3, h4, this⟩
theorem inside_of {code : List Ins} (h : Peep.Closed code) (hn : ∀ x ∈ code, (x.op = 15 → 0 ≤ x.a) ∧ (x.op = 16 → 0 ≤ x.b)) : Inside code := by
 intro x hx
 obtain ⟨k, hk⟩ := List.mem_iff_getElem?.1 hx
 obtain ⟨h1, h2⟩ := hn x hx
 refine ⟨fun e => ⟨h1 e, ?_⟩, fun e => ⟨h2 e, ?_⟩⟩
 ·have h3 := h.2 k x hk x.a.toNat (by simp [Peep.succs, e])
  have := h1 e
  omega
 ·have h3 := h.2 k x hk x.b.toNat (by simp [Peep.succs, e])
  have := h2 e
  omega
theorem mapT_nat {g : Int → Int} {x : Ins} (hg : ∀ t, 0 ≤ g t) : ((Peep.mapT g x).op = 15 → 0 ≤ (Peep.mapT g x).a) ∧ ((Peep.mapT g x).op = 16 → 0 ≤ (Peep.mapT g x).b) := by
 unfold Peep.mapT
 split
 ·exact ⟨fun _ => hg _, fun h => by simp_all⟩
 ·split
  ·exact ⟨fun h => by simp_all, fun _ => hg _⟩
  ·exact ⟨fun h => by simp_all, fun h => by simp_all⟩
theorem turned_inside {code : List Ins} (h : Peep.Closed code) : Inside (Peep.turned code) :=
 inside_of (Peep.turned_closed h) fun x hx => by
  obtain ⟨y, _, rfl⟩ := List.mem_map.1 hx
  exact mapT_nat fun t => Int.natCast_nonneg _
theorem without_nat {gone : Nat → Bool} {code : List Ins} : ∀ x ∈ Peep.without gone code, (x.op = 15 → 0 ≤ x.a) ∧ (x.op = 16 → 0 ≤ x.b) := by
 intro x hx
 obtain ⟨i, hi⟩ := List.mem_iff_getElem?.1 hx
 obtain ⟨k, y, _, _, _, _, h⟩ := Peep.Fit.get (List.getElem?_eq_some_iff.1 hi).1
 obtain rfl := Option.some.inj (h.symm.trans hi)
 exact mapT_nat fun t => Int.natCast_nonneg _
theorem without_le (gone : Nat → Bool) (code : List Ins) : (Peep.without gone code).length ≤ code.length := wo_length_le _ _ _ _
theorem setCell_cell_other (W : World) (a : Addr) (v : Value) {b o : Nat} (h : b ≠ a.block) : (W.setCell a v).cell? ⟨b, o, none⟩ = W.cell? ⟨b, o, none⟩ := by
 unfold World.cell?
 rw [show (W.setCell a v).heap[({ block := b, off := o, spot := none } : Addr).block]? = W.heap[b]? from setCell_heap_other W a v h]
def ClI (code : List Ins) (w : World) (o : Option Addr) (len cap j : Nat) (wr : World) : Prop :=
 ∃ v xs, Below w.heap.size w wr ∧ BoxL wr w.heap.size 28 [.slice o len cap] ∧ BoxL wr (w.heap.size + 1) 28 [v] ∧ (∃ o' l' c', v = .slice o' l' c') ∧
  wr.ownsRow (w.heap.size + 2) 34 5 v ((Peep.turned code).take j).length xs ∧ CellsG 5 (InsO wr (w.heap.size + 2)) ((Peep.turned code).take j) xs
theorem turned_at {code : List Ins} {j : Nat} {x : Ins} (h : code[j]? = some x) : (Peep.turned code).take (j + 1) = (Peep.turned code).take j ++ [Peep.mapT (fun t => (Peep.leads code code.length [t.toNat] t.toNat : Nat)) x] := by
 rw [List.take_add_one, Peep.turned, List.getElem?_map, h]; rfl
theorem clean_any (hRe : ReachedOk) (code : List Ins) (o : Option Addr) (len cap B : Nat) (w : World) (hv : SlC w B 5 (InsR w B) code (.slice o len cap)) (hB : B ≤ w.heap.size) (hcl : Peep.Closed code) (hi : Inside code) (hm : code.length ≤ 100000) (hmL : ∀ x ∈ code, x.l.length ≤ 1000000) :
  Calls Tryz.prog 53 #[.slice o len cap] w fun e w' => ∃ v met, e = .returned v ∧ (∀ k, met k = true ↔ Peep.Reach (Peep.turned code) k) ∧ SlC (gap w' 0 w.heap.size) w'.heap.size 5 (InsR (gap w' 0 w.heap.size) w'.heap.size) (Peep.cleaned met code) v ∧ Below w.heap.size w w' := by
 obtain ⟨hlen, hcap, hmax⟩ := hv.lens
 have HL := Lib.hid hlen
 have HV := Lib.hid hv
 have HI := Lib.hid hi
 have HCL := Lib.hid hcl
 have HML := Lib.hid hmL
 have hm' : len ≤ 100000 := by omega
 have HI0 := Lib.hid (show ClI code w o len cap 0 ((w.alloc (.cells #[.slice o len cap] 28)).alloc (.cells #[.slice none 0 0] 28)) from ⟨.slice none 0 0, [], (Below.one w _).trans ((Below.one _ _).mono (by simp)), (BoxL.new rfl _ _).alloc _, BoxL.new (by simp) _ _, ⟨_, _, _, rfl⟩, World.ownsRow_nil _ _ _ _, rfl⟩)
 clear hlen hv hi hcl hmL
 go_enter Tryz.func53, Tryz.ntmps53
 go_wp2_with fail
 go_loopg [9] len (fun g i wr => ∃ j : Nat, g = len - j ∧ j ≤ len ∧ i = .int .i64 j ∧ Hid (ClI code w o len cap j wr))
 case atStart => exact ⟨0, rfl, by omega, rfl, HI0⟩
 case round =>
  obtain ⟨j, rfl, hj, rfl, HCI⟩ := hrel
  obtain ⟨v, xs, hb, hc, hl, ⟨ov, lv, cv, rfl⟩, hown, hcs⟩ := HCI.out
  by_cases hjl : j < len
  ·obtain ⟨x, hx⟩ : ∃ x, code[j]? = some x := ⟨_, List.getElem?_eq_getElem (by rw [← HL.out]; exact hjl)⟩
   obtain ⟨b1, off1, cs, ho1, hbB, hcl, hcell, hins⟩ := HV.out.at (hb.mono hB) hx
   subst ho1
   match cs, hcl with
   | [c0, c1, c2, c3, c4], _ =>
    have e0 := hcell 0 _ rfl
    have e1 := hcell 1 _ rfl
    have e2 := hcell 2 _ rfl
    have e3 := hcell 3 _ rfl
    have e4 := hcell 4 _ rfl
    rw [Nat.add_zero] at e0
    have HX := Lib.hid hx
    have hxm := HML.out x (List.mem_of_getElem? hx)
    have hxi := Lib.hid (HI.out x (List.mem_of_getElem? hx))
    obtain ⟨op, d, a, b, l⟩ := x
    have HINS := Lib.hid hins
    obtain ⟨sl, he, _, _, _, _, hsl⟩ := hins
    obtain ⟨o4, l4, c4', rfl⟩ := hsl.form
    simp only [List.cons.injEq, and_true] at he
    obtain ⟨rfl, rfl, rfl, rfl, rfl⟩ := he
    dsimp only at hxm
    have HB := Lib.hid hb
    have HC := Lib.hid hc
    have HLB := Lib.hid hl
    have HO := Lib.hid hown
    have HCS := Lib.hid hcs
    have hsz := hb.size
    have hbl := cell_lt e0
    have HCN := Lib.hid (fun X => cloneI_any l (.slice o4 l4 c4') B (wr.alloc X) (hsl.kept ((hb.mono hB).trans ((Below.one wr X).mono (by omega))) fun _ _ _ h => h) (by simp; omega) hxm)
    have HBX := Lib.hid (BoxL.new (W := wr) rfl 34 [.int .i64 op, .int .i64 d, .int .i64 a, .int .i64 b, .slice o4 l4 c4'])
    clear hx hcell hsl hb hc hl hown hcs HCI
    go_wp2_with fail
    refine (HCN.out _).mono ?_
    rintro e w1 ⟨vc, rfl, hoc, ⟨o5, l5, c5, rfl⟩, hb1⟩
    have HW := Lib.hid ((one_below hb1).setCell (p := ⟨wr.heap.size, 4, none⟩) (Nat.le_refl _) (.slice o5 l5 c5))
    have hlx := (HBX.out.keep hb1).lt
    have x0' := (HBX.out.keep hb1).cell 4 rfl
    have z0' := (HBX.out.keep hb1).free 4
    have HXc := Lib.hid (show BoxL (w1.setCell ⟨wr.heap.size, 4, none⟩ (.slice o5 l5 c5)) wr.heap.size 34 [.int .i64 op, .int .i64 d, .int .i64 a, .int .i64 b, .slice o5 l5 c5] from (HBX.out.keep hb1).set 4 _)
    have HOI := Lib.hid (show World.ownsRow (w1.setCell ⟨wr.heap.size, 4, none⟩ (.slice o5 l5 c5)) (w.heap.size + 2) 3 1 (.slice o5 l5 c5) l.length (l.map (Value.int .i64)) from ownsRow_set (ownsRow_base hoc (by simp; have := HLB.out.lt; omega)) _ _ (fun g hg => by have := (hoc.lt g hg).1; simp at this; dsimp only; omega))
    have HIN2 := Lib.hid (show InsR (w1.setCell ⟨wr.heap.size, 4, none⟩ (.slice o5 l5 c5)) (w1.setCell ⟨wr.heap.size, 4, none⟩ (.slice o5 l5 c5)).heap.size ⟨op, d, a, b, l⟩ [.int .i64 op, .int .i64 d, .int .i64 a, .int .i64 b, .slice o5 l5 c5] from by
     obtain ⟨_, _, q1, q2, q3, q4, q5⟩ := HINS.out
     exact ⟨_, rfl, q1, q2, q3, q4, rowInts HOI.out q5.i64⟩)
    have HI64 := Lib.hid (show ∀ y ∈ l, I64 y from by obtain ⟨_, _, _, _, _, _, q5⟩ := HINS.out; exact q5.i64)
    clear hb1 hoc HCN HBX e0 e1 e2 e3 e4
    go_upto_region 6 with fail
    generalize (w1.setCell ⟨wr.heap.size, 4, none⟩ (.slice o5 l5 c5)) = W at HW HXc HOI HIN2 ⊢
    have HBW := Lib.hid (Below.next HB.out HW.out)
    have HCc := Lib.hid (HC.out.keep HW.out)
    have HLc := Lib.hid (HLB.out.keep HW.out)
    have HOc := Lib.hid (ownsRow_keep HO.out HW.out)
    have HCSc := Lib.hid (HCS.out.mono fun x _ cs h => h.keep HW.out)
    have hsW := HBW.out.size
    clear x0' z0' hlx HB HC HLB HO HCS
    have HNM := Lib.hid (fun (V : World) (hV : Below W.heap.size W V) => pnamed_any 86 #[.pointer (some ⟨w.heap.size, 0, none⟩)] (fun t => (Peep.leads code code.length [t.toNat] t.toNat : Nat)) ⟨op, d, a, b, l⟩ _ _ _ _ _ W.heap.size V (HIN2.out.kept hV) (fun _ _ => rfl) (fun t U h hU => by
     have h2 : 0 ≤ t ∧ t < (code.length : Int) := by
      rcases h with ⟨h, rfl⟩ | ⟨h, rfl⟩
      ·exact hxi.out.1 h
      ·exact hxi.out.2 h
     obtain ⟨n, rfl⟩ : ∃ n : Nat, t = n := ⟨t.toNat, by omega⟩
     have hU2 := Below.next hV hU
     exact (clean1_any code (some ⟨b1, off1, none⟩) len cap n w.heap.size B U (codeR_kept HV.out ((HBW.out.mono hB).trans (hU2.mono (by omega)))) (by have := hU2.size; omega) HI.out (by omega) hm (HCc.out.keep hU2)).mono fun e w' h => ⟨by rw [h.1]; simp, h.2⟩))
    have HIV := Lib.hid (mapT_ins (g := fun t => (Peep.leads code code.length [t.toNat] t.toNat : Nat)) HIN2.out (fun h => by have h2 := hxi.out.1 h; have h3 := Peep.leads_lt HCL.out code.length [a.toNat] a.toNat (by first | omega | (dsimp only at h2; omega)); exact ⟨Int.natCast_nonneg _, by show ((Peep.leads code code.length [a.toNat] a.toNat : Nat) : Int) ≤ _; omega⟩) (fun h => by have h2 := hxi.out.2 h; have h3 := Peep.leads_lt HCL.out code.length [b.toNat] b.toNat (by first | omega | (dsimp only at h2; omega)); exact ⟨Int.natCast_nonneg _, by show ((Peep.leads code code.length [b.toNat] b.toNat : Nat) : Int) ≤ _; omega⟩))
    have HTA := Lib.hid (turned_at HX.out)
    obtain ⟨y, hy⟩ : ∃ y, Peep.mapT (fun t => (Peep.leads code code.length [t.toNat] t.toNat : Nat)) ⟨op, d, a, b, l⟩ = y := ⟨_, rfl⟩
    have hyl : y.l = l := by rw [← hy]; unfold Peep.mapT; split <;> (try split) <;> rfl
    rw [hy] at HNM HIV HTA
    obtain ⟨yo, yd, ya, yb, yl⟩ := y
    obtain rfl : yl = l := hyl
    unfold InsV at HNM
    clear hy
    refine wp_region_mono 5 (CleanR w.heap.size w.heap.size (.slice ov lv cv) [.int .i64 op, .int .i64 d, .int .i64 a, .int .i64 b, .slice o5 l5 c5] [.int .i64 yo, .int .i64 yd, .int .i64 ya, .int .i64 yb, .slice o5 l5 c5]) (fun A B => Below A.heap.size A B) (by kernel_rfl) (by show monoB _ 5 32 = true; kernel_rfl) (fun h k => Below.next h k) (Below.refl _ _) (cleanR_kept _ _ _ _ _) ?hops ?hend
    case hops =>
     intro i o hi ho a w1 hdf hsz hex hdep hrest
     obtain ⟨x0, x1, x2, x3, x4, x5, x6, x7, x8, x9, x10, x11, x12, x13, x14, x15, x16, x17, x18, x19, x20, x21, x22, x23, x24, x25, x26, x27, x28, x29, x30, x31, rfl⟩ := act_open32 hsz hdf
     have hWx : Below W.heap.size W w1 := ((Below.refl W.heap.size W).drew).trans hex
     match i, hi with
     | 0, _ =>
      obtain rfl : _ = o := Option.some.inj ho
      obtain rfl : x3 = .pointer (some ⟨w.heap.size + 1, 0, none⟩) := hrest.at 3 (by kernel_rfl)
      have g0 := (HLc.out.keep hWx).cell 0 rfl
      go_wp2
      exact ⟨rfl, _, rfl, rfl, Below.refl _ _⟩
     | 1, _ =>
      obtain rfl : _ = o := Option.some.inj ho
      obtain rfl : x5 = .pointer (some ⟨wr.heap.size, 0, none⟩) := hrest.at 5 (by kernel_rfl)
      have q0 := (HXc.out.keep hWx).cell 0 rfl
      have q1 := (HXc.out.keep hWx).cell 1 rfl
      have q2 := (HXc.out.keep hWx).cell 2 rfl
      have q3 := (HXc.out.keep hWx).cell 3 rfl
      have q4 := (HXc.out.keep hWx).cell 4 rfl
      go_wp2
      exact ⟨rfl, _, rfl, rfl, Below.refl _ _⟩
     | 2, _ =>
      obtain rfl : _ = o := Option.some.inj ho
      obtain rfl : x1 = .pointer (some ⟨w.heap.size, 0, none⟩) := hrest.at 1 (by kernel_rfl)
      go_wp2
      exact ⟨rfl, _, rfl, rfl, Below.refl _ _⟩
     | 3, _ =>
      obtain rfl : _ = o := Option.some.inj ho
      obtain rfl : x18 = _ := dep_at hdep 1 18 (by kernel_rfl)
      obtain rfl : x19 = _ := dep_at hdep 2 19 (by kernel_rfl)
      go_wp2_with fail
      refine (HNM.out _ hWx).mono ?_
      rintro e' w2 ⟨rfl, hb2⟩
      go_wp2
      exact ⟨rfl, _, rfl, rfl, hb2⟩
     | 4, _ =>
      obtain rfl : _ = o := Option.some.inj ho
      obtain rfl : x20 = _ := dep_at hdep 3 20 (by kernel_rfl)
      go_wp2
      exact ⟨rfl, _, rfl, ⟨_, rfl, BoxL.new rfl _ _⟩, Below.one _ _⟩
    case hend =>
     intro a w1 hdf hsz hex hval hrest
     obtain ⟨x0, x1, x2, x3, x4, x5, x6, x7, x8, x9, x10, x11, x12, x13, x14, x15, x16, x17, x18, x19, x20, x21, x22, x23, x24, x25, x26, x27, x28, x29, x30, x31, rfl⟩ := act_open32 hsz hdf
     obtain rfl : x0 = .slice (some ⟨b1, off1, none⟩) len cap := hrest.at 0 (by kernel_rfl)
     obtain rfl : x1 = .pointer (some ⟨w.heap.size, 0, none⟩) := hrest.at 1 (by kernel_rfl)
     obtain rfl : x2 = .slice none 0 0 := hrest.at 2 (by kernel_rfl)
     obtain rfl : x3 = .pointer (some ⟨w.heap.size + 1, 0, none⟩) := hrest.at 3 (by kernel_rfl)
     obtain rfl : x4 = undef := hrest.at 4 (by kernel_rfl)
     obtain rfl : x5 = .pointer (some ⟨wr.heap.size, 0, none⟩) := hrest.at 5 (by kernel_rfl)
     obtain rfl : x6 = undef := hrest.at 6 (by kernel_rfl)
     obtain rfl : x7 = .slice (some ⟨b1, off1, none⟩) len cap := hrest.at 7 (by kernel_rfl)
     obtain rfl : x8 = .int .i64 len := hrest.at 8 (by kernel_rfl)
     obtain rfl : x9 = .int .i64 j := hrest.at 9 (by kernel_rfl)
     obtain rfl : x10 = .bool true := hrest.at 10 (by kernel_rfl)
     obtain rfl : x24 = undef := hrest.at 24 (by kernel_rfl)
     obtain rfl : x25 = undef := hrest.at 25 (by kernel_rfl)
     obtain rfl : x26 = undef := hrest.at 26 (by kernel_rfl)
     obtain rfl : x27 = undef := hrest.at 27 (by kernel_rfl)
     obtain rfl : x28 = undef := hrest.at 28 (by kernel_rfl)
     obtain rfl : x29 = undef := hrest.at 29 (by kernel_rfl)
     obtain rfl : x30 = undef := hrest.at 30 (by kernel_rfl)
     obtain rfl : x31 = undef := hrest.at 31 (by kernel_rfl)
     obtain rfl : x17 = .slice ov lv cv := hval 0 _ 17 (by omega) rfl rfl
     obtain ⟨nb, h21, hbn⟩ : ∃ nb, x21 = .slice (some ⟨nb, 0, none⟩) 1 1 ∧ _ := hval 4 _ 21 (by omega) rfl rfl
     subst h21
     have HWx := Lib.hid (show Below W.heap.size W w1 from ((Below.refl W.heap.size W).drew).trans hex)
     have HBN := Lib.hid hbn
     have HO1 := Lib.hid (ownsRow_keep HOc.out HWx.out)
     have HC1 := Lib.hid (HCc.out.keep HWx.out)
     have HL1 := Lib.hid (HLc.out.keep HWx.out)
     have HB1 := Lib.hid (Below.next HBW.out HWx.out)
     have HNE := Lib.hid (show InsO w1 (w.heap.size + 2) ⟨yo, yd, ya, yb, yl⟩ [.int .i64 yo, .int .i64 yd, .int .i64 ya, .int .i64 yb, .slice o5 l5 c5] from by
      obtain ⟨sl, he, q1, q2, q3, q4, _⟩ := HIV.out
      exact ⟨_, rfl, q1, q2, q3, q4, ownsRow_keep HOI.out HWx.out, HI64.out⟩)
     have HCS1 := Lib.hid (CellsG.snoc rfl HNE.out (HCSc.out.mono fun x _ cs h => h.keep HWx.out))
     have hs1 := HB1.out.size
     have hls := HL1.out.lt
     have hrow : ∀ g, (Value.slice ov lv cv).ownBlock = some g → w.heap.size + 2 ≤ g := fun g hg => (HO1.out.lt g hg).1
     have HROW := Lib.hid hrow
     have hwl : ((Peep.turned code).take j).length ≤ 100000 := by simp; omega
     obtain ⟨i0, hi0, hz0, hz1, hz2⟩ := info_parts info_ins
     clear hex hval hrest hdf hsz hbn hrow
     simp only [List.drop_succ_cons, List.drop_zero]
     go_wp2_with (at_builtin; refine wpList_append_own _ rfl _ _ 28 rfl (w.heap.size + 2) 34 i0 (.agg #[.int .i64 0, .int .i64 0, .int .i64 0, .int .i64 0, .slice none 0 0]) 5 56 Tryz.underlying28 hi0 hz0 hz1 hz2 rfl (by decide) (.slice ov lv cv) _ xs rfl HO1.out ⟨nb, 0, none⟩ 1 1 [.int .i64 yo, .int .i64 yd, .int .i64 ya, .int .i64 yb, .slice o5 l5 c5] rfl rfl (box_news HBN.out) (by intro u hu; simp only [List.mem_cons, List.not_mem_nil, or_false] at hu; rcases hu with rfl | rfl | rfl | rfl | rfl <;> rfl) (by unfold maxLen; omega) (by omega) (by omega) ?_)
     intro v' w3 hown' hgrow _
     obtain ⟨o', l', c', rfl⟩ : ∃ o' l' c', v' = .slice o' l' c' := by
      rcases hown'.2 with ⟨h, _⟩ | ⟨g, cap, cur, h, _⟩
      ·exact ⟨_, _, _, h⟩
      ·exact ⟨_, _, _, h⟩
     have hne0 : some w.heap.size ≠ (Value.slice ov lv cv).ownBlock := fun e => by have := HROW.out _ e.symm; omega
     have hne1 : some (w.heap.size + 1) ≠ (Value.slice ov lv cv).ownBlock := fun e => by have := HROW.out _ e.symm; omega
     have hL3 : BoxL w3 (w.heap.size + 1) 28 [.slice ov lv cv] := (hgrow.block _ hls hne1).trans HL1.out
     have l0 := hL3.cell 0 rfl
     have lz := hL3.free 0
     have hl3 := hL3.lt
     have HN := Lib.hid (show ClI code w (some ⟨b1, off1, none⟩) len cap (j + 1) (w3.setCell ⟨w.heap.size + 1, 0, none⟩ (.slice o' l' c')) from by
      refine ⟨.slice o' l' c', xs ++ [.int .i64 yo, .int .i64 yd, .int .i64 ya, .int .i64 yb, .slice o5 l5 c5], (HB1.out.grown hgrow hs1 (fun g hg => by have := HROW.out g hg; omega)).setCell (p := ⟨w.heap.size + 1, 0, none⟩) (by simp) _, BoxL.other ((hgrow.block _ HC1.out.lt hne0).trans HC1.out) _ _ (by simp), hL3.set 0 _, ⟨_, _, _, rfl⟩, ?_, ?_⟩
      ·rw [HTA.out, List.length_append, List.length_take]
       exact ownsRow_set hown' _ _ (fun g hg => by have h1 := (hown'.lt g hg).1; show g ≠ w.heap.size + 1; omega)
      ·rw [HTA.out]
       refine HCS1.out.mono fun x _ cs h => ?_
       have h3 : InsO w3 (w.heap.size + 2) x cs := h.grown hgrow fun sl hsl => by
        rcases rows_apart hsl HO1.out (by decide) with h | h
        ·exact .inl h
        ·exact .inr h
       refine h3.grown (row := some (w.heap.size + 1)) ⟨rfl, rfl, rfl, by simp, fun k hk hne => setCell_heap_other w3 _ _ (fun e => hne (by rw [e]))⟩ fun sl hsl => ?_
       cases hv : sl.ownBlock with
       | none => exact .inl rfl
       | some g => exact .inr (fun e => by have := (hsl.lt g hv).1; simp at e; omega))
     clear hown' hgrow hL3 hne0 hne1
     go_wp2_with fail
     go_roundg (len - (j + 1))
     case measure => omega
     case rel => exact ⟨j + 1, rfl, by omega, by go_num, HN⟩
  ·obtain rfl : j = len := by omega
   have hT : (Peep.turned code).take j = Peep.turned code := List.take_of_length_le (by simp only [Peep.turned, List.length_map]; rw [← HL.out]; exact Nat.le_refl _)
   rw [hT] at hown hcs
   have htl : (Peep.turned code).length = j := by simp only [Peep.turned, List.length_map]; exact HL.out.symm
   have HTL := Lib.hid htl
   have hsg : SlC (gap wr 0 (w.heap.size + 2)) wr.heap.size 5 (InsR (gap wr 0 (w.heap.size + 2)) wr.heap.size) (Peep.turned code) (.slice ov lv cv) := by
    have h1 := slC_of_row (ownsRow_gap (lo := 0) hown (Nat.le_refl _)) (hcs.mono fun x _ cs h => h.insRgap (lo := 0) (Nat.le_refl _))
    rw [gap_size] at h1
    exact h1
   have HSG := Lib.hid hsg
   have HS := Lib.hid (show SlC wr wr.heap.size 5 (InsR wr wr.heap.size) (Peep.turned code) (.slice ov lv cv) from hsg.cells (fun _ _ _ h => (gap_some h).2) fun _ _ _ h => h.cells fun _ _ _ h => (gap_some h).2)
   have HTC := Lib.hid (Peep.turned_closed HCL.out)
   have HTI := Lib.hid (turned_inside HCL.out)
   have HB := Lib.hid hb
   have HLB := Lib.hid hl
   have hsz := hb.size
   have l0 := hl.cell 0 rfl
   have hll := hl.lt
   clear hT htl hsg hown hcs hb hc hl HCI hjl HI0
   go_wp2_with fail
   refine (hRe (Peep.turned code) ov lv cv wr.heap.size wr HS.out (Nat.le_refl _) HTC.out HTI.out (by rw [HTL.out]; exact hm')).mono ?_
   rintro e w1 ⟨vm, bs, rfl, hsb, hbl, hbr, hb1⟩
   obtain ⟨ob, lb, cb, rfl⟩ := hsb.form
   obtain ⟨met, hmet⟩ : ∃ met : Nat → Bool, met = fun k => bs.getD k false := ⟨_, rfl⟩
   have HMR := Lib.hid (show ∀ k, met k = true ↔ Peep.Reach (Peep.turned code) k from fun k => by
    rw [hmet]
    dsimp only
    rw [List.getD_eq_getElem?_getD]
    cases hx : bs[k]? with
    | none =>
     simp only [Option.getD_none, Bool.false_eq_true, false_iff]
     intro hr
     have := hr.lt HTC.out
     rw [List.getElem?_eq_none_iff] at hx
     omega
    | some b => simpa using hbr k b hx)
   have HMB := Lib.hid (show ∀ k, k < (Peep.turned code).length → bs[k]? = some (met k) from fun k hk => by
    rw [hmet]
    dsimp only
    rw [List.getD_eq_getElem?_getD, List.getElem?_eq_getElem (by omega)]; rfl)
   have HSB := Lib.hid hsb
   have HB1 := Lib.hid (Below.next HB.out hb1)
   have HW := Lib.hid hb1
   have HL1 := Lib.hid (HLB.out.keep hb1)
   have hs1 := HB1.out.size
   have l1 := HL1.out.cell 0 rfl
   have hl1 := HL1.out.lt
   have hswr := hb1.size
   clear hmet hsb hbl hbr hb1 l0
   have HWO := Lib.hid (fun (X : Obj) (hX : X = .cells [.slice ob lb cb].toArray 52) => without_gap 90 #[.pointer (some ⟨w1.heap.size, 0, none⟩)] (Peep.gone1 met (Peep.turned code)) (Peep.turned code) ov lv cv 0 (w.heap.size + 2) wr.heap.size (w1.alloc X)
    (HSG.out.cells (fun b o u hc => gap_keeps (HW.out.trans ((Below.one w1 X).mono hswr)) b o u (cell_lt (gap_some hc).2) hc) fun _ _ _ h => h.gapKept (HW.out.trans ((Below.one w1 X).mono hswr))) (by simp; omega) (by simp; omega) (by rw [HTL.out]; exact hm') (fun _ _ => rfl) HTI.out
    (fun k x c0 c1 c2 c3 c4 U hx hins hU => by
     subst hX
     have hk := (List.getElem?_eq_some_iff.1 hx).1
     exact clean2_any met (Peep.turned code) k x c0 c1 c2 c3 c4 bs ob lb cb w1.heap.size wr.heap.size w1.heap.size U hx (hins.kept (hU.mono (by simp; omega))) (HSB.out.kept ((Below.one w1 _).trans (hU.mono (by simp))) fun _ _ _ h => h) (by have := hU.size; simp at this; omega) (HMB.out k hk) (by have := HTL.out; omega) ((BoxL.new rfl _ _).keep hU)))
   go_wp2_with fail
   refine (HWO.out _ rfl).mono ?_
   rintro e w2 ⟨v2, rfl, hs2, hb2⟩
   obtain ⟨o2, l2, c2, rfl⟩ := hs2.form
   have HB2 := Lib.hid (Below.next HB1.out (one_below hb2))
   have HL2 := Lib.hid (HL1.out.keep (one_below hb2))
   obtain ⟨code2, hcode2⟩ : ∃ code2, Peep.without (Peep.gone1 met (Peep.turned code)) (Peep.turned code) = code2 := ⟨_, rfl⟩
   have HC2 := Lib.hid hcode2
   have HCL2 := Lib.hid (show Peep.Closed code2 from by rw [← hcode2]; exact (Peep.fit1 HTC.out HMR.out).new_closed)
   have HI2 := Lib.hid (show Inside code2 from inside_of HCL2.out (by rw [← hcode2]; exact without_nat))
   have hle2 : code2.length ≤ 100000 := by
    have h1 := without_le (Peep.gone1 met (Peep.turned code)) (Peep.turned code)
    rw [hcode2, HTL.out] at h1
    omega
   rw [hcode2] at hs2
   have HLN2 := Lib.hid hs2.lens.1
   have hl2' : l2 ≤ 100000 := by rw [HLN2.out]; exact hle2
   have HSG2 := Lib.hid (show SlC (gap (w2.setCell ⟨w.heap.size + 1, 0, none⟩ (.slice o2 l2 c2)) 0 (w.heap.size + 2)) w2.heap.size 5 (InsR (gap (w2.setCell ⟨w.heap.size + 1, 0, none⟩ (.slice o2 l2 c2)) 0 (w.heap.size + 2)) w2.heap.size) code2 (.slice o2 l2 c2) from by
    have hk : ∀ b o u, (gap w2 0 (w.heap.size + 2)).cell? ⟨b, o, none⟩ = some u → (gap (w2.setCell ⟨w.heap.size + 1, 0, none⟩ (.slice o2 l2 c2)) 0 (w.heap.size + 2)).cell? ⟨b, o, none⟩ = some u := fun b o u hc => by
     obtain ⟨g1, g2⟩ := gap_some hc
     rw [gap_other g1, setCell_cell_other _ _ _ (show b ≠ w.heap.size + 1 by omega)]
     exact g2
    exact hs2.cells hk fun _ _ _ h => h.cells hk)
   have HL3 := Lib.hid (show BoxL (w2.setCell ⟨w.heap.size + 1, 0, none⟩ (.slice o2 l2 c2)) (w.heap.size + 1) 28 [.slice o2 l2 c2] from HL2.out.set 0 _)
   have HB3 := Lib.hid (show Below w.heap.size w (w2.setCell ⟨w.heap.size + 1, 0, none⟩ (.slice o2 l2 c2)) from HB2.out.setCell (p := ⟨w.heap.size + 1, 0, none⟩) (by simp) _)
   have HSZ := Lib.hid (show (w2.setCell ⟨w.heap.size + 1, 0, none⟩ (.slice o2 l2 c2)).heap.size = w2.heap.size from by simp)
   have l2c := HL2.out.cell 0 rfl
   have l2z := HL2.out.free 0
   have hl2 := HL2.out.lt
   have hs2' := HB2.out.size
   clear hs2 hb2 HWO hcode2 l1
   go_upto_region 10 with fail
   generalize (w2.setCell ⟨w.heap.size + 1, 0, none⟩ (.slice o2 l2 c2)) = W3 at HSG2 HL3 HB3 HSZ ⊢
   have l3c := HL3.out.cell 0 rfl
   have hl3 := HL3.out.lt
   have HWO3 := Lib.hid (without_gap 91 #[.pointer (some ⟨w.heap.size + 1, 0, none⟩)] (Peep.gone2 code2) code2 o2 l2 c2 0 (w.heap.size + 2) w2.heap.size W3 HSG2.out (by omega) (by rw [HSZ.out]; exact Nat.le_refl _) hle2 (fun _ _ => rfl) HI2.out
    (fun k x c0 c1 c2' c3 c4 U hx hins hU => clean3_any code2 k x c0 c1 c2' c3 c4 o2 l2 c2 (w.heap.size + 1) W3.heap.size U hx ((hins.kept (hU.mono (by rw [HSZ.out]; exact Nat.le_refl _))).wider (by rw [HSZ.out]; exact Nat.le_refl _)) HLN2.out hl2' (HL3.out.keep hU)))
   clear l2c l2z hl2
   go_wp2_with fail
   refine HWO3.out.mono ?_
   rintro e w4 ⟨v4, rfl, hs4, hb4⟩
   have HS4 := Lib.hid (show SlC (gap w4 0 w.heap.size) w4.heap.size 5 (InsR (gap w4 0 w.heap.size) w4.heap.size) (Peep.cleaned met code) v4 from by
    have hk : ∀ b o u, (gap w4 0 (w.heap.size + 2)).cell? ⟨b, o, none⟩ = some u → (gap w4 0 w.heap.size).cell? ⟨b, o, none⟩ = some u := fun b o u hc => by
     obtain ⟨g1, g2⟩ := gap_some hc
     rw [gap_other (by omega)]
     exact g2
    rw [Peep.cleaned, HC2.out]
    exact hs4.cells hk fun _ _ _ h => h.cells hk)
   obtain ⟨o4, l4, c4, rfl⟩ := hs4.form
   have HB4 := Lib.hid (Below.next HB3.out hb4)
   clear hs4 hb4
   go_wp2_with fail
   go_ret
   exact ⟨_, met, rfl, HMR.out, HS4.out, HB4.out⟩
end
section
open Go Go.RowKit
def setOf (l : List Int) : Int → Bool := Trm.addV (fun _ => false) l
end
section
namespace Mk
def Ext (s s' : MSt) : Prop := ∃ seg, s'.code = s.code ++ seg
theorem Ext.refl (s : MSt) : Ext s s := ⟨[], by simp⟩
theorem Ext.trans {s s' s'' : MSt} (h : Ext s s') (h' : Ext s' s'') : Ext s s'' := by
 obtain ⟨a, ha⟩ := h
 obtain ⟨b, hb⟩ := h'
 exact ⟨a ++ b, by rw [hb, ha, List.append_assoc]⟩
theorem Ext.left {s s' t : MSt} (h : Ext s s') (e : t.code = s.code) : Ext t s' := by
 obtain ⟨a, ha⟩ := h
 exact ⟨a, by rw [e, ha]⟩
theorem Ext.put {s s' : MSt} (h : Ext s s') (x : Ins) : Ext s (s'.put x) := h.trans ⟨[x], rfl⟩
theorem Ext.len {s s' : MSt} (h : Ext s s') : s.code.length ≤ s'.code.length := by
 obtain ⟨a, ha⟩ := h
 rw [ha]; simp
theorem Ext.at {s s' : MSt} (h : Ext s s') {k : Nat} {x : Ins} (hx : s.code[k]? = some x) : s'.code[k]? = some x := by
 obtain ⟨a, ha⟩ := h
 rw [ha, List.getElem?_append_left (List.getElem?_eq_some_iff.1 hx).1, hx]
theorem modify_right (f : Ins → Ins) : ∀ (a b : List Ins) (k : Nat), a.length ≤ k → (a ++ b).modify k f = a ++ b.modify (k - a.length) f
 | [], b, k, _ => by simp
 | x :: a, b, 0, h => by simp at h
 | x :: a, b, k + 1, h => by
  simp only [List.length_cons, Nat.add_le_add_iff_right] at h
  rw [List.cons_append, List.modify_succ_cons, modify_right f a b k h, List.length_cons, Nat.add_sub_add_right, List.cons_append]
theorem Ext.setA {s s' : MSt} (h : Ext s s') {k : Nat} (hk : s.code.length ≤ k) (a : Int) : Ext s (s'.setA k a) := by
 obtain ⟨g, hg⟩ := h
 refine ⟨g.modify (k - s.code.length) (fun x => { x with a := a }), ?_⟩
 show s'.code.modify k _ = _
 rw [hg, modify_right _ _ _ _ hk]
theorem Ext.setB {s s' : MSt} (h : Ext s s') {k : Nat} (hk : s.code.length ≤ k) (a : Int) : Ext s (s'.setB k a) := by
 obtain ⟨g, hg⟩ := h
 refine ⟨g.modify (k - s.code.length) (fun x => { x with b := a }), ?_⟩
 show s'.code.modify k _ = _
 rw [hg, modify_right _ _ _ _ hk]
theorem Ext.ite {c : Prop} [Decidable c] {s a b : MSt} (ha : Ext s a) (hb : Ext s b) : Ext s (if c then a else b) := by split <;> assumption
theorem Ext.strict (op n d : Int) (l : List Int) (s : MSt) : Ext s (strict op n d l s) := by
 unfold Mk.strict
 repeat' (refine Ext.ite ?_ ?_)
 all_goals first | exact (Ext.refl s).put _ | exact ((Ext.refl s).put _).put _ | exact Ext.refl s
theorem Ext.ended (op n : Int) (l : List Int) (s : MSt) : Ext s (ended op n l s) := by
 unfold Mk.ended
 repeat' (refine Ext.ite ?_ ?_)
 all_goals exact (Ext.refl s).put _
theorem Ext.fix1 : ∀ (v : List Int) (t : List Trm) (s : MSt), Ext s (fix1 v t s)
 | [], t, s => by
  rw [Mk.fix1]
  ·exact Ext.refl s
  ·simp
 | v :: vs, [], s => by
  rw [Mk.fix1]
  ·exact Ext.refl s
  ·simp
 | v :: vs, x :: l, s => by
  rw [Mk.fix1]
  exact (Ext.put (s' := s.fresh.bind [v] [s.regs]) ⟨[], by simp [MSt.bind, MSt.fresh]⟩ _).trans (Ext.fix1 vs l _)
theorem Ext.thens {f g : Int → Bool → MSt → MSt} (hf : ∀ (d : Int) (e : Bool) (s : MSt), Ext s (f d e s)) (hg : ∀ (d : Int) (e : Bool) (s : MSt), Ext s (g d e s)) (c d : Int) (e : Bool) (s : MSt) : Ext s (thens f g c d e s) := by
 have h2 : Ext s (f d e (s.put ⟨16, 0, c, 0, []⟩)) := ((Ext.refl s).put _).trans (hf _ _ _)
 unfold Mk.thens
 dsimp only
 cases e with
 | true => exact (Ext.setB h2 (Nat.le_refl _) _).trans (hg _ _ _)
 | false => exact Ext.setA ((Ext.setB (h2.put _) (Nat.le_refl _) _).trans (hg _ _ _)) h2.len _
theorem Ext.had {lk : List (Int × Int) → Int → Int} (x : Trm) (hx : ∀ (d : Int) (e : Bool) (s : MSt), Ext s (into lk x d e s)) (s : MSt) : Ext s (hadW lk x.op x.n (into lk x) s).2 := by
 unfold hadW
 split
 ·exact Ext.refl s
 ·exact (hx _ _ _).left rfl
mutual
theorem Ext.into {lk : List (Int × Int) → Int → Int} : ∀ (x : Trm) (d : Int) (e : Bool) (s : MSt), Ext s (into lk x d e s)
 | .mk op n v t, d, e, s => by
  rw [Mk.into]
  split
  ·exact Ext.choice t d e s
  split
  ·exact Ext.seqs t d e s
  split
  ·exact Ext.lets t v [] d e s
  split
  ·exact (Ext.fix1 v t s).trans (Ext.fixs t v d e _)
  split
  ·split
   ·exact (Ext.allT t s).trans (Ext.ended _ _ _ _)
   ·split
    ·exact (Ext.refl s).put _
    ·exact (((Ext.allT t s.fresh).left rfl).trans (Ext.strict _ _ _ _ _)).put _
  ·split
   ·exact (Ext.refl s).put _
   ·exact (Ext.allT t s).trans (Ext.strict _ _ _ _ _)
theorem Ext.choice {lk : List (Int × Int) → Int → Int} : ∀ (l : List Trm) (d : Int) (e : Bool) (s : MSt), Ext s (choice lk l d e s)
 | [a, b, x], d, e, s => by
  rw [Mk.choice]
  exact (Ext.had a (Ext.into a) s).trans (Ext.thens (fun d e s => Ext.into b d e s) (fun d e s => Ext.into x d e s) _ _ _ _)
 | [], _, _, s => by rw [Mk.choice]; exact Ext.refl s; all_goals simp
 | [_], _, _, s => by rw [Mk.choice]; exact Ext.refl s; all_goals simp
 | [_, _], _, _, s => by rw [Mk.choice]; exact Ext.refl s; all_goals simp
 | _ :: _ :: _ :: _ :: _, _, _, s => by rw [Mk.choice]; exact Ext.refl s; all_goals simp
theorem Ext.allT {lk : List (Int × Int) → Int → Int} : ∀ (l : List Trm) (s : MSt), Ext s (allT lk l s).2
 | [], s => by rw [Mk.allT]; exact Ext.refl s
 | x :: l, s => by
  rw [Mk.allT]
  exact (Ext.had x (Ext.into x) s).trans (Ext.allT l _)
theorem Ext.seqs {lk : List (Int × Int) → Int → Int} : ∀ (l : List Trm) (d : Int) (e : Bool) (s : MSt), Ext s (seqs lk l d e s)
 | [], _, _, s => by rw [Mk.seqs]; exact Ext.refl s
 | [x], d, e, s => by
  rw [Mk.seqs]
  exact Ext.into x d e s
 | x :: y :: l, d, e, s => by
  rw [Mk.seqs]
  exact (Ext.had x (Ext.into x) s).trans (Ext.seqs (y :: l) d e _)
theorem Ext.lets {lk : List (Int × Int) → Int → Int} : ∀ (l : List Trm) (v rs : List Int) (d : Int) (e : Bool) (s : MSt), Ext s (lets lk l v rs d e s)
 | [], _, _, _, _, s => by rw [Mk.lets]; exact Ext.refl s
 | [x], v, rs, d, e, s => by
  rw [Mk.lets]
  exact (Ext.into x d e _).left rfl
 | x :: y :: l, v, rs, d, e, s => by
  rw [Mk.lets]
  exact (Ext.had x (Ext.into x) s).trans (Ext.lets (y :: l) v _ d e _)
theorem Ext.fixs {lk : List (Int × Int) → Int → Int} : ∀ (l : List Trm) (v : List Int) (d : Int) (e : Bool) (s : MSt), Ext s (fixs lk l v d e s)
 | [], _, _, _, s => by rw [Mk.fixs]; exact Ext.refl s
 | [x], v, d, e, s => by
  rw [Mk.fixs]
  exact Ext.into x d e s
 | .mk o m w t :: y :: l, v, d, e, s => by
  rw [Mk.fixs]
  exact ((Ext.allT t s).put _).trans (Ext.fixs (y :: l) v.tail d e _)
end
def fill (lk : List (Int × Int) → Int → Int) : List Int → List Trm → MSt → MSt
 | v :: vs, x :: l, s => fill lk vs l ((allT lk x.t s).2.put ⟨8, 0, lk (allT lk x.t s).2.vars v, 0, (allT lk x.t s).1⟩)
 | _, _, s => s
theorem seqs_eq (lk : List (Int × Int) → Int → Int) : ∀ (l : List Trm) (x : Trm) (d : Int) (e : Bool) (s : MSt), seqs lk (l ++ [x]) d e s = into lk x d e (allT lk l s).2
 | [], x, d, e, s => by rw [List.nil_append, seqs, allT]
 | [y], x, d, e, s => by
  show seqs lk (y :: x :: []) d e s = _
  rw [seqs, seqs, allT, allT]
 | y :: z :: l, x, d, e, s => by
  show seqs lk (y :: z :: (l ++ [x])) d e s = _
  rw [seqs, allT]
  exact seqs_eq lk (z :: l) x d e _
theorem lets_eq (lk : List (Int × Int) → Int → Int) : ∀ (l : List Trm) (x : Trm) (v rs : List Int) (d : Int) (e : Bool) (s : MSt), lets lk (l ++ [x]) v rs d e s = into lk x d e ((allT lk l s).2.bind v (rs ++ (allT lk l s).1))
 | [], x, v, rs, d, e, s => by rw [List.nil_append, lets, allT, List.append_nil]
 | [y], x, v, rs, d, e, s => by
  show lets lk (y :: x :: []) v rs d e s = _
  rw [lets, lets, allT, allT]
 | y :: z :: l, x, v, rs, d, e, s => by
  show lets lk (y :: z :: (l ++ [x])) v rs d e s = _
  rw [lets, allT]
  dsimp only
  rw [show rs ++ ((hadW lk y.op y.n (into lk y) s).1 :: (allT lk (z :: l) (hadW lk y.op y.n (into lk y) s).2).1) = rs ++ [(hadW lk y.op y.n (into lk y) s).1] ++ (allT lk (z :: l) (hadW lk y.op y.n (into lk y) s).2).1 by simp]
  exact lets_eq lk (z :: l) x v _ d e _
theorem fixs_eq (lk : List (Int × Int) → Int → Int) : ∀ (l : List Trm) (x : Trm) (v : List Int) (d : Int) (e : Bool) (s : MSt), l.length = v.length → fixs lk (l ++ [x]) v d e s = into lk x d e (fill lk v l s)
 | [], x, [], d, e, s, _ => by
  rw [List.nil_append, fixs, fill]
  simp
 | y :: l, x, [], d, e, s, h => by simp at h
 | [], x, v :: vs, d, e, s, h => by simp at h
 | .mk o m u t :: [], x, v :: vs, d, e, s, h => by
  show fixs lk (.mk o m u t :: x :: []) (v :: vs) d e s = _
  rw [fixs, fill, fixs, fill]
  ·rfl
  ·simp
 | .mk o m u t :: z :: l, x, v :: vs, d, e, s, h => by
  show fixs lk (.mk o m u t :: z :: (l ++ [x])) (v :: vs) d e s = _
  rw [fixs, fill]
  exact fixs_eq lk (z :: l) x vs d e _ (by simpa using h)
theorem fix1_snoc : ∀ (v : List Int) (t : List Trm) (j : Nat) (x : Int) (y : Trm) (s : MSt), v[j]? = some x → t[j]? = some y → fix1 (v.take (j + 1)) t s = (((fix1 (v.take j) t s).fresh.bind [x] [(fix1 (v.take j) t s).regs]).put ⟨7, (fix1 (v.take j) t s).regs, y.n, 0, []⟩)
 | [], t, j, x, y, s, hx, hy => by simp at hx
 | v :: vs, [], j, x, y, s, hx, hy => by simp at hy
 | v :: vs, z :: t, 0, x, y, s, hx, hy => by
  simp only [List.getElem?_cons_zero, Option.some.injEq] at hx hy
  subst hx hy
  have h0 : ∀ (l : List Trm) (s : MSt), fix1 [] l s = s := fun l s => by rw [fix1]; simp
  rw [List.take_succ_cons, List.take_zero, List.take_zero, fix1, h0, h0]
 | v :: vs, z :: t, j + 1, x, y, s, hx, hy => by
  rw [List.take_succ_cons, List.take_succ_cons, fix1, fix1]
  exact fix1_snoc vs t j x y _ (by simpa using hx) (by simpa using hy)
theorem fill_snoc (lk : List (Int × Int) → Int → Int) : ∀ (v : List Int) (t : List Trm) (j : Nat) (x : Int) (y : Trm) (s : MSt), v[j]? = some x → t[j]? = some y → fill lk (v.take (j + 1)) t s = ((allT lk y.t (fill lk (v.take j) t s)).2.put ⟨8, 0, lk (allT lk y.t (fill lk (v.take j) t s)).2.vars x, 0, (allT lk y.t (fill lk (v.take j) t s)).1⟩)
 | [], t, j, x, y, s, hx, hy => by simp at hx
 | v :: vs, [], j, x, y, s, hx, hy => by simp at hy
 | v :: vs, z :: t, 0, x, y, s, hx, hy => by
  simp only [List.getElem?_cons_zero, Option.some.injEq] at hx hy
  subst hx hy
  have h0 : ∀ (l : List Trm) (s : MSt), fill lk [] l s = s := fun l s => by rw [fill]; simp
  rw [List.take_succ_cons, List.take_zero, List.take_zero, fill, h0, h0]
 | v :: vs, z :: t, j + 1, x, y, s, hx, hy => by
  rw [List.take_succ_cons, List.take_succ_cons, fill, fill]
  exact fill_snoc lk vs t j x y _ (by simpa using hx) (by simpa using hy)
theorem fill_take (lk : List (Int × Int) → Int → Int) : ∀ (v : List Int) (t : List Trm) (s : MSt), fill lk v (t.take v.length) s = fill lk v t s
 | [], t, s => by rw [fill, fill] <;> simp
 | v :: vs, [], s => by simp
 | v :: vs, z :: t, s => by
  rw [List.length_cons, List.take_succ_cons, fill, fill]
  exact fill_take lk vs t _
theorem Room.fill {lk : List (Int × Int) → Int → Int} (hl : LkOk lk) : ∀ (v : List Int) (t : List Trm) {s : MSt} {k : Nat}, Room s (k + (6 * Trm.allL t - 5 * t.length)) → Room (fill lk v t s) k
 | [], t, s, k, h => by rw [Mk.fill]; exact h.mono (by omega); simp
 | v :: vs, [], s, k, h => by rw [Mk.fill]; exact h.mono (by omega); simp
 | v :: vs, .mk o m w t :: l, s, k, h => by
  have hk := Trm.allL_length l
  rw [Trm.allL, Trm.all] at h
  simp only [List.length_cons] at h
  rw [Mk.fill]
  refine Room.fill hl vs l (Room.put (Room.allT hl t s (k + (6 * Trm.allL l - 5 * l.length) + 1) (h.mono (by omega))).1 _)
end Mk
end
end Go.Proofs.YtigkhmppnnljiaaGreatDoor

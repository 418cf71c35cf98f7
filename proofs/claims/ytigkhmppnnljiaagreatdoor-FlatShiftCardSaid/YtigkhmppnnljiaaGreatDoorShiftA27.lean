/-
  What the proofs lean on: MkV, ChkH.
-/
import Derived.Deep.LoopGhost
import Derived.Test.YtigkhmppnnljiaaGreatDoorShiftA09
import Derived.Test.YtigkhmppnnljiaaGreatDoorShiftA10
import Derived.Test.YtigkhmppnnljiaaGreatDoorShiftA23
import Derived.Test.YtigkhmppnnljiaaGreatDoorShiftA25
import Derived.Test.YtigkhmppnnljiaaGreatDoorShiftA26
namespace Go.Proofs.YtigkhmppnnljiaaGreatDoor
open Go Go.RowKit Mk

/-- What a part of the maker is called with. -/
structure MkIn (W : World) (B base mb vb : Nat) (cv : Value) (X : Nat → Prop) (s : MSt) : Prop where
  st : MkS W base mb vb cv X s
  b1 : B ≤ base
  b2 : B ≤ mb
  b3 : B ≤ vb
  b4 : base ≤ W.heap.size
  bx : ∀ b, X b → b < W.heap.size
theorem MkIn.low {W : World} {B base mb vb : Nat} {cv : Value} {X : Nat → Prop} {s : MSt} (h : MkIn W B base mb vb cv X s) : ∀ b, SM mb vb cv b → B ≤ b := fun b hb => by
  rcases hb with rfl | rfl | hb
  · exact h.b2
  · exact h.b3
  · obtain ⟨xs, hr, _⟩ := h.st.row
    exact Nat.le_trans h.b1 (ownBlock_base hr hb)
theorem MkIn.size {W : World} {B base mb vb : Nat} {cv : Value} {X : Nat → Prop} {s : MSt} (h : MkIn W B base mb vb cv X s) : B ≤ W.heap.size := Nat.le_trans h.b1 h.b4
theorem MkIn.keep {W W' : World} {B base mb vb : Nat} {cv : Value} {X : Nat → Prop} {s : MSt} (h : MkIn W B base mb vb cv X s) (hb : Below W.heap.size W W') : MkIn W' B base mb vb cv X s := ⟨h.st.below hb, h.b1, h.b2, h.b3, Nat.le_trans h.b4 hb.size, fun b hb' => Nat.lt_of_lt_of_le (h.bx b hb') hb.size⟩
theorem MkIn.turn {W : World} {B base mb vb : Nat} {cv : Value} {X X' : Nat → Prop} {s : MSt} (h : MkIn W B base mb vb cv X s) (hX : ∀ b, b < W.heap.size → X' b → X b) (hx : ∀ b, X' b → b < W.heap.size) : MkIn W B base mb vb cv X' s := ⟨h.st.keep (Turned.refl (fun _ => False) W) (fun _ _ h => h.elim) hX, h.b1, h.b2, h.b3, h.b4, hx⟩
/-- What a part of the maker leaves. -/
structure MkGo (B base mb vb : Nat) (cv cv' : Value) (X : Nat → Prop) (s' : MSt) (w w' : World) : Prop where
  inn : MkIn w' B base mb vb cv' X s'
  turned : Turned (SM mb vb cv) w w'
  less : ∀ b, b < w.heap.size → SM mb vb cv' b → SM mb vb cv b
  low : Below B w w'
theorem MkGo.refl {B base mb vb : Nat} {cv : Value} {X : Nat → Prop} {s : MSt} {w : World} (h : MkIn w B base mb vb cv X s) : MkGo B base mb vb cv cv X s w w := ⟨h, Turned.refl _ _, fun _ _ h => h, Below.refl _ _⟩
theorem MkGo.next {B base mb vb : Nat} {cv cv' cv'' : Value} {X X' : Nat → Prop} {s' s'' : MSt} {w w' w'' : World} (h : MkGo B base mb vb cv cv' X s' w w') (h' : MkGo B base mb vb cv' cv'' X' s'' w' w'') : MkGo B base mb vb cv cv'' X' s'' w w'' :=
  ⟨h'.inn, h.turned.trans h'.turned h.less, fun b hb hs => h.less b hb (h'.less b (Nat.lt_of_lt_of_le hb h.turned.size) hs), h.low.trans h'.low⟩
theorem MkGo.before {B base mb vb : Nat} {cv cv' : Value} {X : Nat → Prop} {s' : MSt} {w w1 w' : World} (hb : Below w.heap.size w w1) (hB : B ≤ w.heap.size) (h : MkGo B base mb vb cv cv' X s' w1 w') : MkGo B base mb vb cv cv' X s' w w' :=
  ⟨h.inn, (Turned.of_below hb).next h.turned, fun b hlt hs => h.less b (Nat.lt_of_lt_of_le hlt hb.size) hs, (hb.mono hB).trans h.low⟩
theorem MkGo.after {B base mb vb : Nat} {cv cv' : Value} {X : Nat → Prop} {s' : MSt} {w w1 w' : World} (h : MkGo B base mb vb cv cv' X s' w w1) (hb : Below w1.heap.size w1 w') : MkGo B base mb vb cv cv' X s' w w' :=
  h.next ⟨h.inn.keep hb, Turned.of_below hb, fun _ _ h => h, hb.mono h.inn.size⟩
/-- A row of ints of the call's own is none of the maker's. -/
theorem MkS.apart {W : World} {base base2 mb vb n : Nat} {cv v : Value} {X : Nat → Prop} {s : MSt} {xs : List Value} (h : MkS W base mb vb cv X s) (ho : W.ownsRow base2 3 1 v n xs) : ∀ b, v.ownBlock = some b → ¬ SM mb vb cv b := fun b hb hs => by
  obtain ⟨cs, f, hc⟩ := own_row ho b hb
  rcases hs with rfl | rfl | hs
  · rw [show W.heap[b]? = _ from h.box] at hc
    simp at hc
  · obtain ⟨D, ⟨es, clock, hm, _⟩, _⟩ := h.vars
    rw [hm] at hc
    simp at hc
  · obtain ⟨xs', hr, _⟩ := h.row
    obtain ⟨cs', f', hc'⟩ := own_row hr b hs
    rw [hc'] at hc
    simp at hc
theorem look_run {W : World} {b n : Nat} {f : Int → Int} (hown : MapVI W b n f) (k : Int) (hk : I64 k) : (Instr.lookup 108 (.map (some b)) (.int .i64 k) false).run Tryz.prog W = .ok (.int .i64 (f k)) W := by
  obtain ⟨D, h1, h2, h3⟩ := hown
  obtain ⟨c, hrun, hat, hwc⟩ := h1.lookup_int key_int Tryz.underlying108 Tryz.underlying3 (zeroI W) (keyOf_i64 hk)
  have hc := (h3 k).symm.trans hat
  obtain rfl : f k = c := by simpa using hc
  exact hrun
/-- An instruction is laid. -/
theorem lay_mk {B base mb vb : Nat} {cv : Value} {X : Nat → Prop} {s : MSt} (p d q b : Int) (l : List Int) (ol : Option Addr) (ll cl : Nat) (W : World) (h : MkIn W B base mb vb cv X s) (hk : s.code.length ≤ 1000000) (hop : I64 p) (hd : I64 d) (ha : I64 q) (hb : I64 b) (hl : IntsM W (fun b => SM mb vb cv b ∨ X b) l (.slice ol ll cl)) :
    Calls Tryz.prog 143 #[.pointer (some ⟨mb, 0, none⟩), .agg #[.int .i64 p, .int .i64 d, .int .i64 q, .int .i64 b, .slice ol ll cl]] W fun e w' => ∃ g cap c, e = .returned (.func (.func 165) #[] #[.pointer (some ⟨W.heap.size, 0, none⟩), .pointer (some ⟨c, 0, none⟩)]) ∧
      BoxL w' W.heap.size 107 [.pointer (some ⟨mb, 0, none⟩)] ∧ BoxL w' c 3 [.int .i64 s.code.length] ∧ W.heap.size ≤ c ∧ MkGo B base mb vb cv (.slice (some ⟨g, 0, none⟩) (s.code.length + 1) cap) X (s.put ⟨p, d, q, b, l⟩) W w' := by
  obtain ⟨xs, hr, hc⟩ := h.st.row
  obtain ⟨ov, lv, cv2, rfl⟩ : ∃ ov lv cv2, cv = .slice ov lv cv2 := by
    rcases hr.2 with ⟨rfl, _⟩ | ⟨g, cap, cur, rfl, _⟩
    · exact ⟨_, _, _, rfl⟩
    · exact ⟨_, _, _, rfl⟩
  refine (lay_any base mb _ s.regs (.map (some vb)) _ ov lv cv2 rfl xs p d q b ol ll cl W h.st.box hr hk h.b4).mono ?_
  intro e w' hp
  obtain ⟨g, cap, c, he, h1, h2, h3, h4, h5, h6⟩ := h.st.laid ⟨p, d, q, b, l⟩ _ xs hr hc hop hd ha hb hl hp
  exact ⟨g, cap, c, he, h1, h2, h3, ⟨h4, h.b1, h.b2, h.b3, Nat.le_trans h.b4 h5.size, fun b hb => Nat.lt_of_lt_of_le (h.bx b hb) h5.size⟩, h5, h6, h5.below h.low h.size⟩
/-- .. of no use is what is told. -/
theorem lay_void {B base mb vb : Nat} {cv : Value} {X : Nat → Prop} {s : MSt} (p d q b : Int) (l : List Int) (ol : Option Addr) (ll cl : Nat) (W : World) (h : MkIn W B base mb vb cv X s) (hk : s.code.length ≤ 1000000) (hop : I64 p) (hd : I64 d) (ha : I64 q) (hb : I64 b) (hl : IntsM W (fun b => SM mb vb cv b ∨ X b) l (.slice ol ll cl)) :
    Calls Tryz.prog 143 #[.pointer (some ⟨mb, 0, none⟩), .agg #[.int .i64 p, .int .i64 d, .int .i64 q, .int .i64 b, .slice ol ll cl]] W fun e w' => ∃ fv, e = .returned fv ∧ ∃ cv', MkGo B base mb vb cv cv' X (s.put ⟨p, d, q, b, l⟩) W w' :=
  (lay_mk p d q b l ol ll cl W h hk hop hd ha hb hl).mono fun _e _w' ⟨_g, _cap, _c, he, _, _, _, hg⟩ => ⟨_, he, _, hg⟩
/-- A term's value is laid. -/
def IntoC (e : Bool) (x : Trm) : Prop := ∀ (c0 c1 c2 c3 : Value) (B base mb vb : Nat) (cv : Value) (X : Nat → Prop) (s : MSt) (d : Int) (nc nk : Int) (fr : Bool) (sc : Int → Bool) (W : World), TrmR W B x [c0, c1, c2, c3] → MkIn W B base mb vb cv X s → Trm.wf nc nk fr x sc = true → Room s (6 * x.all - 2) → 0 ≤ d ∧ d ≤ 1900000 →
  Calls Tryz.prog 71 #[.pointer (some ⟨mb, 0, none⟩), .agg #[c0, c1, c2, c3], .int .i64 d, .bool e] W fun r w' => r = .returned (.tuple #[]) ∧ ∃ cv', MkGo B base mb vb cv cv' X (Mk.into Mk.lkL x d e s) W w'
/-- A term's register. -/
def HadC (x : Trm) : Prop := ∀ (c0 c1 c2 c3 : Value) (B base mb vb : Nat) (cv : Value) (X : Nat → Prop) (s : MSt) (nc nk : Int) (fr : Bool) (sc : Int → Bool) (W : World), TrmR W B x [c0, c1, c2, c3] → MkIn W B base mb vb cv X s → Trm.wf nc nk fr x sc = true → Room s (6 * x.all - 1) →
  Calls Tryz.prog 144 #[.pointer (some ⟨mb, 0, none⟩), .agg #[c0, c1, c2, c3]] W fun r w' => r = .returned (.int .i64 (Mk.had Mk.lkL x s).1) ∧ ∃ cv', MkGo B base mb vb cv cv' X (Mk.had Mk.lkL x s).2 W w'
/-- Terms' registers. -/
def AllC (l : List Trm) : Prop := ∀ (sl : Value) (B base mb vb : Nat) (cv : Value) (X : Nat → Prop) (s : MSt) (nc nk : Int) (fr : Bool) (sc : Int → Bool) (W : World), TrmS W B l sl → MkIn W B base mb vb cv X s → (∀ x ∈ l, Trm.wf nc nk fr x sc = true) → Room s (6 * Trm.allL l) →
  Calls Tryz.prog 109 #[.pointer (some ⟨mb, 0, none⟩), sl] W fun r w' => ∃ rv, r = .returned rv ∧ ∃ cv', MkGo B base mb vb cv cv' X (Mk.allT Mk.lkL l s).2 W w' ∧ IntsM w' (fun b => SM mb vb cv' b ∨ X b) (Mk.allT Mk.lkL l s).1 rv

theorem MkS.fresh {W : World} {base mb vb : Nat} {cv : Value} {X : Nat → Prop} {s : MSt} (h : MkS W base mb vb cv X s) : MkS (W.setCell ⟨mb, 1, none⟩ (.int .i64 (s.regs + 1))) base mb vb cv X s.fresh := by
  obtain ⟨xs, hr, hc⟩ := h.row
  have hT : Turned (fun b => b = mb) W (W.setCell ⟨mb, 1, none⟩ (.int .i64 (s.regs + 1))) := Turned.set _ _ _ rfl
  refine ⟨h.box.set 1 _, ⟨xs, row_same hr (fun c hcc => setCell_heap_other _ _ _ fun e => ?_), hc.mono fun x _ cs hx => hx.kept hT (fun b _ hb => .inl (.inl hb)) (fun _ _ h => h)⟩, h.vars.same (setCell_heap_other _ _ _ fun e => mapI_box_ne h.vars h.box e.symm)⟩
  have e : c = mb := e
  subst e
  obtain ⟨cs', f, hc⟩ := own_row hr c hcc
  rw [show W.heap[c]? = _ from h.box] at hc
  simp at hc
end Go.Proofs.YtigkhmppnnljiaaGreatDoor

namespace Go.Proofs.YtigkhmppnnljiaaGreatDoor
open Go Go.RowKit

set_option maxHeartbeats 4000000 in
set_option maxRecDepth 100000 in
theorem cright_low (op n : Int) (ov ot : Option Addr) (lv cv lt ct : Nat) (cb bb sb : Nat) (nc nk size : Int) (fr : Bool) (l : List Int) (sc : Int → Bool) (deep : Int) (W : World) (hc : ChkS W cb bb sb nc nk fr size l sc)
    (h0 : 0 ≤ size) (h1 : size + 1 ≤ 20000) (h2 : 0 ≤ deep) (h3 : deep ≤ 400) (f t le : Int) (any binds : Bool) (hf : f ≤ 3) (ht3 : t < 3)
    (HSH : ∀ W, Calls Tryz.prog 100 #[.int .i64 op] W fun e w' => e = .returned (.tuple #[.agg #[.int .i64 f, .int .i64 t, .int .i64 le, .bool any, .bool binds], .bool true]) ∧ Below W.heap.size W w') :
    Calls Tryz.prog 69 #[.pointer (some ⟨cb, 0, none⟩), .agg #[.int .i64 op, .int .i64 n, .slice ov lv cv, .slice ot lt ct], .map (some sb), .int .i64 deep] W (ChkPost cb bb sb nc nk fr false (fun _ => False) W) := by
  have hmf : ∀ (fn : Fn) (first cap : Array Value) (w : World), (Instr.makeFunc fn first cap).run Tryz.prog w = .ok (.func fn first cap) w := fun _ _ _ _ => rfl
  obtain ⟨W1, hW1⟩ : ∃ W1, ((((W.alloc (.cells #[.pointer (some ⟨cb, 0, none⟩)] 100)).alloc (.cells #[.int .i64 op, .int .i64 n, .slice ov lv cv, .slice ot lt ct] 41)).alloc (.cells #[.map (some sb)] 101)).alloc (.cells #[.int .i64 deep] 3)).setCell ⟨cb, 4, none⟩ (.int .i64 (size + 1)) = W1 := ⟨_, rfl⟩
  have hbelow := below_four W (.cells #[.pointer (some ⟨cb, 0, none⟩)] 100) (.cells #[.int .i64 op, .int .i64 n, .slice ov lv cv, .slice ot lt ct] 41) (.cells #[.map (some sb)] 101) (.cells #[.int .i64 deep] 3)
  have HW := Lib.hid hW1
  have HT1 := Lib.hid (show Turned (S3 cb bb sb) W W1 from by rw [← hW1]; exact (Turned.of_below hbelow).next (Turned.set _ _ _ (.inl rfl)))
  have HC1 := Lib.hid (show ChkS W1 cb bb sb nc nk fr (size + 1) l sc from by rw [← hW1]; exact (hc.keep hbelow).sized _)
  have HX1 := Lib.hid (show RBox W1 W.heap.size cb sb op n (.slice ov lv cv) (.slice ot lt ct) deep from by
    rw [← hW1]
    exact (RBox.new W cb sb op n (.slice ov lv cv) (.slice ot lt ct) deep).turned (Turned.set (S := fun b => b = cb) _ _ _ rfl) (fun b hb => by rw [hb]; exact hc.box.lt))
  have c4 := (hc.box.keep hbelow).cell 4 rfl
  have cz := (hc.box.keep hbelow).free 4
  have cl := hc.box.lt
  have HC := Lib.hid hc
  have HSH := Lib.hid HSH
  clear hW1 hbelow hc
  go_enter_defers Tryz.func69, Tryz.ntmps69
  go_upto_region 2 with fail
  rw [HW.out]
  have t0 := HX1.out.t.cell 0 rfl
  have tl := HX1.out.t.lt
  clear c4 cz cl
  go_wp2_with fail
  refine (HSH.out _).mono ?_
  rintro e w1 ⟨rfl, hb1⟩
  have HB1 := Lib.hid hb1
  clear hb1 HSH t0 tl
  go_upto_region 3 with fail
  obtain ⟨W3, hW3⟩ : ∃ W3, w1.alloc (.cells #[.int .i64 f, .int .i64 t, .int .i64 le, .bool any, .bool binds] 144) = W3 := ⟨_, rfl⟩
  have HB3 := Lib.hid (show Below W1.heap.size W1 W3 from by rw [← hW3]; exact Below.next HB1.out (Below.one w1 _))
  have B9 := Lib.hid (show BoxL W3 w1.heap.size 144 [.int .i64 f, .int .i64 t, .int .i64 le, .bool any, .bool binds] from by rw [← hW3]; exact BoxL.new rfl _ _)
  rw [hW3]
  clear hW3
  have HX3 := Lib.hid (HX1.out.turned (Turned.of_below (S := fun _ => False) HB3.out) (fun _ h => h.elim))
  have HC3 := Lib.hid (HC1.out.keep HB3.out)
  have HD := Lib.hid ((Below.refl W3.heap.size W3).drew)
  have g0 : decide (400 < deep) = false := decide_eq_false (by omega)
  have g1 : decide (20000 < size + 1) = false := decide_eq_false (by omega)
  have g2 : decide (3 < f) = false := decide_eq_false (by omega)
  have g3 : decide (t < 3) = true := decide_eq_true ht3
  refine wp_region_quiet_all (Below W3.heap.size W3) (by kernel_rfl) (by kernel_rfl) HD.out ?_
  intro T0 _ WW HWW HWW2
  have x0 : ∀ t, (WW t).cell? _ = _ := fun t => ((HWW t).cell (p := ⟨W.heap.size, 0, none⟩) HX3.out.c.lt).trans (HX3.out.c.cell 0 rfl)
  have x1 : ∀ t, (WW t).cell? _ = _ := fun t => ((HWW t).cell (p := ⟨W.heap.size + 1, 0, none⟩) HX3.out.t.lt).trans (HX3.out.t.cell 0 rfl)
  have x2 : ∀ t, (WW t).cell? _ = _ := fun t => ((HWW t).cell (p := ⟨W.heap.size + 1, 1, none⟩) HX3.out.t.lt).trans (HX3.out.t.cell 1 rfl)
  have x3 : ∀ t, (WW t).cell? _ = _ := fun t => ((HWW t).cell (p := ⟨W.heap.size + 1, 2, none⟩) HX3.out.t.lt).trans (HX3.out.t.cell 2 rfl)
  have x4 : ∀ t, (WW t).cell? _ = _ := fun t => ((HWW t).cell (p := ⟨W.heap.size + 1, 3, none⟩) HX3.out.t.lt).trans (HX3.out.t.cell 3 rfl)
  have x5 : ∀ t, (WW t).cell? _ = _ := fun t => ((HWW t).cell (p := ⟨W.heap.size + 1 + 1, 0, none⟩) HX3.out.s.lt).trans (HX3.out.s.cell 0 rfl)
  have x6 : ∀ t, (WW t).cell? _ = _ := fun t => ((HWW t).cell (p := ⟨W.heap.size + 1 + 1 + 1, 0, none⟩) HX3.out.d.lt).trans (HX3.out.d.cell 0 rfl)
  have y0 : ∀ t, (WW t).cell? _ = _ := fun t => ((HWW t).cell (p := ⟨cb, 0, none⟩) HC3.out.box.lt).trans (HC3.out.box.cell 0 rfl)
  have y4 : ∀ t, (WW t).cell? _ = _ := fun t => ((HWW t).cell (p := ⟨cb, 4, none⟩) HC3.out.box.lt).trans (HC3.out.box.cell 4 rfl)
  have z0 : ∀ t, (WW t).cell? _ = _ := fun t => ((HWW t).cell (p := ⟨w1.heap.size, 0, none⟩) B9.out.lt).trans (B9.out.cell 0 rfl)
  have z1 : ∀ t, (WW t).cell? _ = _ := fun t => ((HWW t).cell (p := ⟨w1.heap.size, 1, none⟩) B9.out.lt).trans (B9.out.cell 1 rfl)
  have z2 : ∀ t, (WW t).cell? _ = _ := fun t => ((HWW t).cell (p := ⟨w1.heap.size, 2, none⟩) B9.out.lt).trans (B9.out.cell 2 rfl)
  have z3 : ∀ t, (WW t).cell? _ = _ := fun t => ((HWW t).cell (p := ⟨w1.heap.size, 3, none⟩) B9.out.lt).trans (B9.out.cell 3 rfl)
  have z4 : ∀ t, (WW t).cell? _ = _ := fun t => ((HWW t).cell (p := ⟨w1.heap.size, 4, none⟩) B9.out.lt).trans (B9.out.cell 4 rfl)
  have HWH := Lib.hid HWW
  have HW2 := Lib.hid HWW2
  clear HWW HWW2
  repeat (go_big_quiet_step (fail))
  refine wpQuiet_nil ?_
  intro t
  have HBB := Lib.hid (HWH.out t)
  clear x0 x1 x2 x3 x4 x5 x6 y0 y4 z0 z1 z2 z3 z4
  go_wp2_with fail
  refine ⟨_, results_tmp rfl _ _ _, rfl, HT1.out.next (Turned.of_below (Below.next HB3.out HBB.out)), fun h => by simp at h, fun _ => (HC3.out.keep HBB.out).bad⟩

/-! ### plain -/
theorem ChkPost.no {cb bb sb : Nat} {nc nk : Int} {fr : Bool} {G G' : World → Prop} {w : World} {e : Ending} {w' : World} (h : ChkPost cb bb sb nc nk fr false G w e w') : ChkPost cb bb sb nc nk fr false G' w e w' := ⟨h.1, h.2.1, (fun h => by cases h), h.2.2.2⟩
theorem ChkPost.good {cb bb sb : Nat} {nc nk : Int} {fr r : Bool} {G G' : World → Prop} {w : World} {e : Ending} {w' : World} (h : ChkPost cb bb sb nc nk fr r G w e w') (hg : ∀ w, G w → G' w) : ChkPost cb bb sb nc nk fr r G' w e w' := ⟨h.1, h.2.1, fun hr => hg _ (h.2.2.1 hr), h.2.2.2⟩
theorem bndL_parts (ts : List Trm) (j : Nat) : Trm.bndL (ts.take j) ++ Trm.bndL (ts.drop j) = Trm.bndL ts := by rw [← bndL_append, List.take_append_drop]
theorem bnd_perm (v : List Int) (ts : List Trm) (j : Nat) : (Trm.bndL (ts.take j) ++ v ++ Trm.bndL (ts.drop j)).Perm (v ++ Trm.bndL ts) := by
  rw [← bndL_parts ts j, ← List.append_assoc]
  exact List.perm_append_comm.append_right _
theorem plainR_eq {nc nk : Int} {fr : Bool} {sc : Int → Bool} {op : Int} (ho : op ≠ 9) (l v : List Int) (ts : List Trm) : plainR nc nk fr sc l v ts = (Trm.wfL nc nk fr op v ts sc && Trm.newB (fun _ => false) (l ++ (v ++ Trm.bndL ts))) := by
  rw [plainR, wfL_split ho, ← Trm.newB_perm ((bnd_perm v ts (ts.length - 1)).append_left l), okL, okL, Bool.eq_iff_iff]
  simp only [Bool.and_eq_true]
  constructor
  · rintro ⟨⟨h1, h2⟩, h3, h4, h5⟩
    exact ⟨⟨h1, h4⟩, by simpa only [List.append_assoc] using h5⟩
  · rintro ⟨⟨h1, h2⟩, h3⟩
    have h4 : Trm.newB (fun _ => false) (l ++ Trm.bndL (ts.take (ts.length - 1)) ++ v ++ Trm.bndL (ts.drop (ts.length - 1))) = true := by simpa only [List.append_assoc] using h3
    exact ⟨⟨h1, newB_more (newB_more h4)⟩, newB_more h4, h2, h4⟩
theorem fixR_eq {nc nk : Int} {fr : Bool} {sc : Int → Bool} (l v : List Int) (ts : List Trm) : fixR nc nk fr sc l v ts = (Trm.wfL nc nk fr 9 v ts sc && Trm.newB (fun _ => false) (l ++ (v ++ Trm.bndL ts))) := by
  rw [fixR, wfL_fix, okL, Bool.eq_iff_iff]
  simp only [Bool.and_eq_true, ← List.append_assoc]
  constructor
  · rintro ⟨h1, ⟨h2, h3⟩, h4⟩
    exact ⟨⟨h2, h4⟩, h3⟩
  · rintro ⟨⟨h2, h4⟩, h3⟩
    exact ⟨newB_more h3, ⟨h2, h3⟩, h4⟩
theorem GoodR.perm {cb bb sb : Nat} {nc nk : Int} {fr : Bool} {size size' : Int} {l b b' : List Int} {sc : Int → Bool} {w' : World} (h : GoodR cb bb sb nc nk fr size l b sc w') (hp : b.Perm b') (hs : size = size') : GoodR cb bb sb nc nk fr size' l b' sc w' := by
  obtain ⟨l', h1, h2⟩ := h
  exact ⟨l', h1.trans (hp.append_left l), hs ▸ h2⟩

set_option maxRecDepth 100000 in
theorem right_low (op n : Int) (v : List Int) (ts : List Trm) (hso : Trm.sortB op = false) (f t le : Int) (any binds : Bool) (f1 : f ≤ 3) (f2 : t < 3)
    (HSH : ∀ W, Calls Tryz.prog 100 #[.int .i64 op] W fun e w' => e = .returned (.tuple #[.agg #[.int .i64 f, .int .i64 t, .int .i64 le, .bool any, .bool binds], .bool true]) ∧ Below W.heap.size W w') : RightC (.mk op n v ts) := by
  intro c0 c1 c2 c3 B cb bb sb nc nk size fr l sc deep W hv hS hB hc hsc h0 h1 h2 h3
  have hall := (Trm.mk op n v ts).all_pos
  obtain ⟨vs', ts', he, _, hn, hvs, hts⟩ := trmR_iff.1 hv
  simp only [List.cons.injEq, and_true] at he
  obtain ⟨rfl, rfl, rfl, rfl⟩ := he
  obtain ⟨ov, lv, cv, rfl⟩ := hvs.form
  obtain ⟨ot, lt, ct, rfl⟩ := hts.form
  rw [show (Trm.wf nc nk fr (.mk op n v ts) sc && Trm.newB (fun _ => false) (l ++ (Trm.mk op n v ts).bnd)) = false from by rw [Trm.wf, hso]; rfl]
  exact (cright_low op n ov ot lv cv lt ct cb bb sb nc nk size fr l sc deep W hc h0 (by omega) h2 (by omega) f t le any binds f1 f2 HSH).mono fun e w' h => h.no
set_option maxRecDepth 100000 in
theorem right_out (op n : Int) (v : List Int) (ts : List Trm) (ho : op < 0 ∨ 22 < op) : RightC (.mk op n v ts) := by
  intro c0 c1 c2 c3 B cb bb sb nc nk size fr l sc deep W hv hS hB hc hsc h0 h1 h2 h3
  have hall := (Trm.mk op n v ts).all_pos
  obtain ⟨vs', ts', he, _, hn, hvs, hts⟩ := trmR_iff.1 hv
  simp only [List.cons.injEq, and_true] at he
  obtain ⟨rfl, rfl, rfl, rfl⟩ := he
  obtain ⟨ov, lv, cv, rfl⟩ := hvs.form
  obtain ⟨ot, lt, ct, rfl⟩ := hts.form
  rw [show (Trm.wf nc nk fr (.mk op n v ts) sc && Trm.newB (fun _ => false) (l ++ (Trm.mk op n v ts).bnd)) = false from by
    rw [Trm.wf, show Trm.sortB op = false from by simp [Trm.sortB]; omega]; rfl]
  exact (cright_no op n ov ot lv cv lt ct cb bb sb nc nk size fr l sc deep W hc h0 (by omega) h2 (by omega) 0 0 0 false false false true true (fun h => by cases h) (fun h => by cases h) (shape_no op ho) (fun h => by cases h) (fun h => by cases h) rfl).mono fun e w' h => h.no
set_option maxHeartbeats 2000000 in
set_option maxRecDepth 100000 in
theorem right_op (op n : Int) (v : List Int) (ts : List Trm) (hso : Trm.sortB op = true) (h7 : op ≠ 7) (ih : ∀ x ∈ ts, RightC x) (f t le : Int) (any binds : Bool) (f1 : f ≤ 3) (f2 : 3 ≤ t)
    (HSH : ∀ W, Calls Tryz.prog 100 #[.int .i64 op] W fun e w' => e = .returned (.tuple #[.agg #[.int .i64 f, .int .i64 t, .int .i64 le, .bool any, .bool binds], .bool true]) ∧ Below W.heap.size W w')
    (HFT : ∀ (ov ot : Option Addr) (lv cv lt ct : Nat) (W : World), lt ≤ ct → ct ≤ 9223372036854775807 → lv ≤ cv → cv ≤ 9223372036854775807 → Calls Tryz.prog 101 #[.agg #[.int .i64 f, .int .i64 t, .int .i64 le, .bool any, .bool binds], .agg #[.int .i64 op, .int .i64 n, .slice ov lv cv, .slice ot lt ct]] W fun e w' => e = .returned (.bool (Trm.countsB op lv lt)) ∧ Below W.heap.size W w')
    (HNU : ∀ (cb sb bb m : Nat) (nc nk size : Int) (fr : Bool) (sc : Int → Bool) (ov ot : Option Addr) (lv cv lt ct : Nat) (w : World), I64 n → BoxL w cb 103 [.int .i64 3, .int .i64 nc, .int .i64 nk, .bool fr, .int .i64 size, .map (some bb)] → MapVB w sb m sc → Calls Tryz.prog 102 #[.pointer (some ⟨cb, 0, none⟩), .agg #[.int .i64 op, .int .i64 n, .slice ov lv cv, .slice ot lt ct], .map (some sb)] w fun e w' => e = .returned (.bool (Trm.numberB nc nk fr sc op n)) ∧ Below w.heap.size w w') : RightC (.mk op n v ts) := by
  intro c0 c1 c2 c3 B cb bb sb nc nk size fr l sc deep W hv hS hB hc hsc h0 h1 h2 h3
  have hall : (Trm.mk op n v ts).all = 1 + Trm.allL ts := by rw [Trm.all]
  obtain ⟨vs', ts', he, _, hn, hvs, hts⟩ := trmR_iff.1 hv
  simp only [List.cons.injEq, and_true] at he
  obtain ⟨rfl, rfl, rfl, rfl⟩ := he
  obtain ⟨ov, lv, cv, rfl⟩ := hvs.form
  obtain ⟨ot, lt, ct, rfl⟩ := hts.form
  obtain ⟨a1, a2, a3⟩ := hvs.lens
  obtain ⟨b1, b2, b3⟩ := SlC.lens (show SlC W B 4 (TrmR W B) ts (.slice ot lt ct) from hts)
  have hft := fun W => HFT ov ot lv cv lt ct W b2 b3 a2 a3
  have hnu : ∀ W, ChkS W cb bb sb nc nk fr (size + 1) l sc → Calls Tryz.prog 102 #[.pointer (some ⟨cb, 0, none⟩), .agg #[.int .i64 op, .int .i64 n, .slice ov lv cv, .slice ot lt ct], .map (some sb)] W fun e w' => e = .returned (.bool (Trm.numberB nc nk fr sc op n)) ∧ Below W.heap.size W w' := fun W h => HNU cb sb bb _ nc nk _ fr sc ov ot lv cv lt ct W hn h.box h.scope
  have hwf : Trm.wf nc nk fr (.mk op n v ts) sc = (Trm.countsB op lv lt && (Trm.numberB nc nk fr sc op n && Trm.wfL nc nk fr op v ts sc)) := by rw [Trm.wf, hso, Bool.true_and, a1, b1]
  have hlen := Trm.allL_length ts
  have hbnd : (Trm.mk op n v ts).bnd = v ++ Trm.bndL ts := by rw [Trm.bnd]
  cases hq : (Trm.countsB op lv lt && Trm.numberB nc nk fr sc op n) with
  | false =>
    rw [show (Trm.wf nc nk fr (.mk op n v ts) sc && Trm.newB (fun _ => false) (l ++ (Trm.mk op n v ts).bnd)) = false from by rw [hwf, ← Bool.and_assoc, hq]; rfl]
    exact (cright_no op n ov ot lv cv lt ct cb bb sb nc nk size fr l sc deep W hc h0 (by omega) h2 (by omega) f t le any binds true _ _ (fun _ => f1) (fun _ => f2) HSH (fun _ => hft) (fun _ _ => hnu) (by rw [Bool.true_and]; exact hq)).mono fun e w' h => h.no
  | true =>
    rw [Bool.and_eq_true] at hq
    rw [hq.1] at hft
    rw [hq.2] at hnu
    rw [hwf, hq.1, hq.2, Bool.true_and, Bool.true_and, hbnd]
    by_cases h9 : op = 9
    · subst h9
      have hl : ts.length = v.length + 1 := by
        have := hq.1
        have : lt = lv + 1 := by simpa [Trm.countsB] using this
        omega
      rw [← fixR_eq]
      have hm := cright_fix 9 n v ts ov ot lv cv lt ct B cb bb sb nc nk size fr l sc deep W hc hvs hts hS hB hsc ih b1 (by omega) h0 (by omega) h2 (by omega) f t le any binds f1 f2 rfl (by decide) hl HSH hft hnu _ rfl
      refine hm.mono fun e w' h => h.good fun w hg => hg.perm (List.Perm.refl _) (by rw [hall]; omega)
    · have hg : (op == 7 || op == 9) = false := by simp [h7, h9]
      rw [← plainR_eq h9]
      have hm := cright_plain op n v ts ov ot lv cv lt ct B cb bb sb nc nk size fr l sc deep W hc hvs hts hS hB hsc ih b1 (by omega) h0 (by omega) h2 (by omega) f t le any binds f1 f2 h9 hg HSH hft hnu _ rfl
      refine hm.mono fun e w' h => h.good fun w hg => hg.perm (bnd_perm v ts _) (by rw [hall]; omega)
set_option maxRecDepth 100000 in
/-- right, of any term. -/
theorem tright_any (x : Trm) : RightC x := by
  induction x using Trm.ind with
  | _ op n v ts ih =>
  by_cases ho : op < 0 ∨ 22 < op
  · exact right_out op n v ts ho
  have hop : op = 0 ∨ op = 1 ∨ op = 3 ∨ op = 5 ∨ op = 6 ∨ op = 8 ∨ op = 9 ∨ op = 10 ∨ op = 11 ∨ op = 12 ∨ op = 13 ∨ op = 15 ∨ op = 16 ∨ op = 17 ∨ op = 18 ∨ op = 19 ∨ op = 20 ∨ op = 21 ∨ op = 22 ∨ op = 2 ∨ op = 4 ∨ op = 7 ∨ op = 14 := by omega
  clear ho
  rcases hop with rfl | rfl | rfl | rfl | rfl | rfl | rfl | rfl | rfl | rfl | rfl | rfl | rfl | rfl | rfl | rfl | rfl | rfl | rfl | rfl | rfl | rfl | rfl
  · exact right_op 0 n v ts (by decide) (by decide) ih 0 3 0 false false (by decide) (by decide) shape_0 (fun ov ot lv cv lt ct W _ _ _ _ => by
      have h := sfits_plain 0 3 0 n 0 false ov ot lv cv lt ct W
      rwa [show ((decide (lt = 0) || (false && decide (0 ≤ lt))) && decide (lv = 0)) = Trm.countsB 0 lv lt from by
        rw [Bool.eq_iff_iff]
        simp [Trm.countsB]
        try omega] at h) (fun cb sb bb m nc nk size fr sc ov ot lv cv lt ct w hn hc hm => number_0 cb sb bb m nc nk size n fr sc ov ot lv cv lt ct w hn hc hm _ rfl)
  · exact right_op 1 n v ts (by decide) (by decide) ih 0 3 0 false false (by decide) (by decide) shape_1 (fun ov ot lv cv lt ct W _ _ _ _ => by
      have h := sfits_plain 0 3 1 n 0 false ov ot lv cv lt ct W
      rwa [show ((decide (lt = 0) || (false && decide (0 ≤ lt))) && decide (lv = 0)) = Trm.countsB 1 lv lt from by
        rw [Bool.eq_iff_iff]
        simp [Trm.countsB]
        try omega] at h) (fun cb sb bb m nc nk size fr sc ov ot lv cv lt ct w hn hc hm => number_1 cb sb bb m nc nk size n fr sc ov ot lv cv lt ct w hn hc hm _ rfl)
  · exact right_op 3 n v ts (by decide) (by decide) ih 0 3 3 false false (by decide) (by decide) shape_3 (fun ov ot lv cv lt ct W _ _ _ _ => by
      have h := sfits_plain 0 3 3 n 3 false ov ot lv cv lt ct W
      rwa [show ((decide (lt = 3) || (false && decide (3 ≤ lt))) && decide (lv = 0)) = Trm.countsB 3 lv lt from by
        rw [Bool.eq_iff_iff]
        simp [Trm.countsB]
        try omega] at h) (fun cb sb bb m nc nk size fr sc ov ot lv cv lt ct w hn hc hm => number_3 cb sb bb m nc nk size n fr sc ov ot lv cv lt ct w hn hc hm _ rfl)
  · exact right_op 5 n v ts (by decide) (by decide) ih 0 3 1 true false (by decide) (by decide) shape_5 (fun ov ot lv cv lt ct W _ _ _ _ => by
      have h := sfits_plain 0 3 5 n 1 true ov ot lv cv lt ct W
      rwa [show ((decide (lt = 1) || (true && decide (1 ≤ lt))) && decide (lv = 0)) = Trm.countsB 5 lv lt from by
        rw [Bool.eq_iff_iff]
        simp [Trm.countsB]
        try omega] at h) (fun cb sb bb m nc nk size fr sc ov ot lv cv lt ct w hn hc hm => number_5 cb sb bb m nc nk size n fr sc ov ot lv cv lt ct w hn hc hm _ rfl)
  · exact right_op 6 n v ts (by decide) (by decide) ih 0 3 1 true false (by decide) (by decide) shape_6 (fun ov ot lv cv lt ct W _ _ _ _ => by
      have h := sfits_plain 0 3 6 n 1 true ov ot lv cv lt ct W
      rwa [show ((decide (lt = 1) || (true && decide (1 ≤ lt))) && decide (lv = 0)) = Trm.countsB 6 lv lt from by
        rw [Bool.eq_iff_iff]
        simp [Trm.countsB]
        try omega] at h) (fun cb sb bb m nc nk size fr sc ov ot lv cv lt ct w hn hc hm => number_6 cb sb bb m nc nk size n fr sc ov ot lv cv lt ct w hn hc hm _ rfl)
  · exact right_op 8 n v ts (by decide) (by decide) ih 1 3 0 false true (by decide) (by decide) shape_8 (fun ov ot lv cv lt ct W h1 h2 h3 h4 => by
      have h := sfits_binds 1 3 8 n ov ot lv cv lt ct (by decide) h1 h2 h3 h4 W
      rwa [show decide (lt = lv + 1) = Trm.countsB 8 lv lt from by simp [Trm.countsB]] at h) (fun cb sb bb m nc nk size fr sc ov ot lv cv lt ct w hn hc hm => number_8 cb sb bb m nc nk size n fr sc ov ot lv cv lt ct w hn hc hm _ rfl)
  · exact right_op 9 n v ts (by decide) (by decide) ih 1 3 0 false true (by decide) (by decide) shape_9 (fun ov ot lv cv lt ct W h1 h2 h3 h4 => by
      have h := sfits_binds 1 3 9 n ov ot lv cv lt ct (by decide) h1 h2 h3 h4 W
      rwa [show decide (lt = lv + 1) = Trm.countsB 9 lv lt from by simp [Trm.countsB]] at h) (fun cb sb bb m nc nk size fr sc ov ot lv cv lt ct w hn hc hm => number_9 cb sb bb m nc nk size n fr sc ov ot lv cv lt ct w hn hc hm _ rfl)
  · exact right_op 10 n v ts (by decide) (by decide) ih 2 3 0 true false (by decide) (by decide) shape_10 (fun ov ot lv cv lt ct W _ _ _ _ => by
      have h := sfits_plain 2 3 10 n 0 true ov ot lv cv lt ct W
      rwa [show ((decide (lt = 0) || (true && decide (0 ≤ lt))) && decide (lv = 0)) = Trm.countsB 10 lv lt from by
        rw [Bool.eq_iff_iff]
        simp [Trm.countsB]
        try omega] at h) (fun cb sb bb m nc nk size fr sc ov ot lv cv lt ct w hn hc hm => number_10 cb sb bb m nc nk size n fr sc ov ot lv cv lt ct w hn hc hm _ rfl)
  · exact right_op 11 n v ts (by decide) (by decide) ih 0 3 0 false false (by decide) (by decide) shape_11 (fun ov ot lv cv lt ct W _ _ _ _ => by
      have h := sfits_plain 0 3 11 n 0 false ov ot lv cv lt ct W
      rwa [show ((decide (lt = 0) || (false && decide (0 ≤ lt))) && decide (lv = 0)) = Trm.countsB 11 lv lt from by
        rw [Bool.eq_iff_iff]
        simp [Trm.countsB]
        try omega] at h) (fun cb sb bb m nc nk size fr sc ov ot lv cv lt ct w hn hc hm => number_11 cb sb bb m nc nk size n fr sc ov ot lv cv lt ct w hn hc hm _ rfl)
  · exact right_op 12 n v ts (by decide) (by decide) ih 1 3 1 false false (by decide) (by decide) shape_12 (fun ov ot lv cv lt ct W _ _ _ _ => by
      have h := sfits_plain 1 3 12 n 1 false ov ot lv cv lt ct W
      rwa [show ((decide (lt = 1) || (false && decide (1 ≤ lt))) && decide (lv = 0)) = Trm.countsB 12 lv lt from by
        rw [Bool.eq_iff_iff]
        simp [Trm.countsB]
        try omega] at h) (fun cb sb bb m nc nk size fr sc ov ot lv cv lt ct w hn hc hm => number_12 cb sb bb m nc nk size n fr sc ov ot lv cv lt ct w hn hc hm _ rfl)
  · exact right_op 13 n v ts (by decide) (by decide) ih 1 3 0 false false (by decide) (by decide) shape_13 (fun ov ot lv cv lt ct W _ _ _ _ => by
      have h := sfits_plain 1 3 13 n 0 false ov ot lv cv lt ct W
      rwa [show ((decide (lt = 0) || (false && decide (0 ≤ lt))) && decide (lv = 0)) = Trm.countsB 13 lv lt from by
        rw [Bool.eq_iff_iff]
        simp [Trm.countsB]
        try omega] at h) (fun cb sb bb m nc nk size fr sc ov ot lv cv lt ct w hn hc hm => number_13 cb sb bb m nc nk size n fr sc ov ot lv cv lt ct w hn hc hm _ rfl)
  · exact right_op 15 n v ts (by decide) (by decide) ih 2 3 1 false false (by decide) (by decide) shape_15 (fun ov ot lv cv lt ct W _ _ _ _ => by
      have h := sfits_plain 2 3 15 n 1 false ov ot lv cv lt ct W
      rwa [show ((decide (lt = 1) || (false && decide (1 ≤ lt))) && decide (lv = 0)) = Trm.countsB 15 lv lt from by
        rw [Bool.eq_iff_iff]
        simp [Trm.countsB]
        try omega] at h) (fun cb sb bb m nc nk size fr sc ov ot lv cv lt ct w hn hc hm => number_15 cb sb bb m nc nk size n fr sc ov ot lv cv lt ct w hn hc hm _ rfl)
  · exact right_op 16 n v ts (by decide) (by decide) ih 2 3 1 false false (by decide) (by decide) shape_16 (fun ov ot lv cv lt ct W _ _ _ _ => by
      have h := sfits_plain 2 3 16 n 1 false ov ot lv cv lt ct W
      rwa [show ((decide (lt = 1) || (false && decide (1 ≤ lt))) && decide (lv = 0)) = Trm.countsB 16 lv lt from by
        rw [Bool.eq_iff_iff]
        simp [Trm.countsB]
        try omega] at h) (fun cb sb bb m nc nk size fr sc ov ot lv cv lt ct w hn hc hm => number_16 cb sb bb m nc nk size n fr sc ov ot lv cv lt ct w hn hc hm _ rfl)
  · exact right_op 17 n v ts (by decide) (by decide) ih 2 3 2 false false (by decide) (by decide) shape_17 (fun ov ot lv cv lt ct W _ _ _ _ => by
      have h := sfits_plain 2 3 17 n 2 false ov ot lv cv lt ct W
      rwa [show ((decide (lt = 2) || (false && decide (2 ≤ lt))) && decide (lv = 0)) = Trm.countsB 17 lv lt from by
        rw [Bool.eq_iff_iff]
        simp [Trm.countsB]
        try omega] at h) (fun cb sb bb m nc nk size fr sc ov ot lv cv lt ct w hn hc hm => number_17 cb sb bb m nc nk size n fr sc ov ot lv cv lt ct w hn hc hm _ rfl)
  · exact right_op 18 n v ts (by decide) (by decide) ih 2 3 2 false false (by decide) (by decide) shape_18 (fun ov ot lv cv lt ct W _ _ _ _ => by
      have h := sfits_plain 2 3 18 n 2 false ov ot lv cv lt ct W
      rwa [show ((decide (lt = 2) || (false && decide (2 ≤ lt))) && decide (lv = 0)) = Trm.countsB 18 lv lt from by
        rw [Bool.eq_iff_iff]
        simp [Trm.countsB]
        try omega] at h) (fun cb sb bb m nc nk size fr sc ov ot lv cv lt ct w hn hc hm => number_18 cb sb bb m nc nk size n fr sc ov ot lv cv lt ct w hn hc hm _ rfl)
  · exact right_op 19 n v ts (by decide) (by decide) ih 3 3 0 true false (by decide) (by decide) shape_19 (fun ov ot lv cv lt ct W _ _ _ _ => by
      have h := sfits_plain 3 3 19 n 0 true ov ot lv cv lt ct W
      rwa [show ((decide (lt = 0) || (true && decide (0 ≤ lt))) && decide (lv = 0)) = Trm.countsB 19 lv lt from by
        rw [Bool.eq_iff_iff]
        simp [Trm.countsB]
        try omega] at h) (fun cb sb bb m nc nk size fr sc ov ot lv cv lt ct w hn hc hm => number_19 cb sb bb m nc nk size n fr sc ov ot lv cv lt ct w hn hc hm _ rfl)
  · exact right_op 20 n v ts (by decide) (by decide) ih 3 3 0 false false (by decide) (by decide) shape_20 (fun ov ot lv cv lt ct W _ _ _ _ => by
      have h := sfits_plain 3 3 20 n 0 false ov ot lv cv lt ct W
      rwa [show ((decide (lt = 0) || (false && decide (0 ≤ lt))) && decide (lv = 0)) = Trm.countsB 20 lv lt from by
        rw [Bool.eq_iff_iff]
        simp [Trm.countsB]
        try omega] at h) (fun cb sb bb m nc nk size fr sc ov ot lv cv lt ct w hn hc hm => number_20 cb sb bb m nc nk size n fr sc ov ot lv cv lt ct w hn hc hm _ rfl)
  · exact right_op 21 n v ts (by decide) (by decide) ih 3 3 0 false false (by decide) (by decide) shape_21 (fun ov ot lv cv lt ct W _ _ _ _ => by
      have h := sfits_plain 3 3 21 n 0 false ov ot lv cv lt ct W
      rwa [show ((decide (lt = 0) || (false && decide (0 ≤ lt))) && decide (lv = 0)) = Trm.countsB 21 lv lt from by
        rw [Bool.eq_iff_iff]
        simp [Trm.countsB]
        try omega] at h) (fun cb sb bb m nc nk size fr sc ov ot lv cv lt ct w hn hc hm => number_21 cb sb bb m nc nk size n fr sc ov ot lv cv lt ct w hn hc hm _ rfl)
  · exact right_op 22 n v ts (by decide) (by decide) ih 3 3 1 true false (by decide) (by decide) shape_22 (fun ov ot lv cv lt ct W _ _ _ _ => by
      have h := sfits_plain 3 3 22 n 1 true ov ot lv cv lt ct W
      rwa [show ((decide (lt = 1) || (true && decide (1 ≤ lt))) && decide (lv = 0)) = Trm.countsB 22 lv lt from by
        rw [Bool.eq_iff_iff]
        simp [Trm.countsB]
        try omega] at h) (fun cb sb bb m nc nk size fr sc ov ot lv cv lt ct w hn hc hm => number_22 cb sb bb m nc nk size n fr sc ov ot lv cv lt ct w hn hc hm _ rfl)
  · exact right_low 2 n v ts (by decide) 0 1 1 false false (by decide) (by decide) shape_2
  · exact right_low 4 n v ts (by decide) 0 2 1 false true (by decide) (by decide) shape_4
  · exact right_low 7 n v ts (by decide) 0 0 0 false true (by decide) (by decide) shape_7
  · exact right_low 14 n v ts (by decide) 1 1 1 false false (by decide) (by decide) shape_14
end Go.Proofs.YtigkhmppnnljiaaGreatDoor

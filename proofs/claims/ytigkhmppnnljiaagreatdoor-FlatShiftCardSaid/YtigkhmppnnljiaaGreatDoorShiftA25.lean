/-
  What the proofs lean on: MkS, SpellF, ChkF.
-/
import Derived.Test.YtigkhmppnnljiaaGreatDoorShiftA14
import Derived.Test.YtigkhmppnnljiaaGreatDoorShiftA16
import Derived.Test.YtigkhmppnnljiaaGreatDoorShiftA21
import Derived.Test.YtigkhmppnnljiaaGreatDoorShiftA24
namespace Go.Proofs.YtigkhmppnnljiaaGreatDoor
open Go Go.RowKit

/-- A slice of ints that lies outside of some blocks. -/
def IntsM (W : World) (S : Nat → Prop) (l : List Int) (v : Value) : Prop := SlC W W.heap.size 1 IntR l v ∧ ∀ b, v.ownBlock = some b → l ≠ [] → ¬ S b
/-- The cells of an instruction whose list lies outside of some blocks. -/
def InsM (W : World) (S : Nat → Prop) (x : Ins) (cs : List Value) : Prop := ∃ sl, cs = [.int .i64 x.op, .int .i64 x.d, .int .i64 x.a, .int .i64 x.b, sl] ∧ I64 x.op ∧ I64 x.d ∧ I64 x.a ∧ I64 x.b ∧ IntsM W S x.l sl
theorem IntsM.kept {W W' : World} {S S' S'' : Nat → Prop} {l : List Int} {v : Value} (h : IntsM W S l v) (ht : Turned S'' W W') (h2 : ∀ b, b < W.heap.size → S'' b → S b) (hS : ∀ b, b < W.heap.size → S' b → S b) : IntsM W' S' l v := by
  obtain ⟨⟨o, len, cap, rfl, h1, h2', h3, h4⟩, h5⟩ := h
  by_cases hl : l = []
  · subst hl
    refine ⟨⟨o, len, cap, rfl, h1, h2', h3, ?_⟩, fun _ _ h => absurd rfl h⟩
    cases o with
    | none => exact h4
    | some a => exact ⟨fun h => absurd rfl h, fun i x hx => by simp at hx⟩
  cases o with
  | none => exact absurd h4.1 hl
  | some a =>
    have hb := (h4.1 hl).2
    have hn := h5 a.block rfl hl
    refine ⟨⟨some a, len, cap, rfl, h1, h2', h3, fun _ => ⟨(h4.1 hl).1, Nat.lt_of_lt_of_le hb ht.size⟩, fun i x hx => ?_⟩, fun b hbb _ hs => ?_⟩
    · obtain ⟨cs, g1, g2, g3⟩ := h4.2 i x hx
      refine ⟨cs, g1, fun j u hj => ?_, g3⟩
      have := g2 j u hj
      unfold World.cell? at this ⊢
      rw [ht.block a.block hb (fun hs => hn (h2 _ hb hs))]
      exact this
    · have e : a.block = b := by simpa [Value.ownBlock] using hbb
      subst e
      exact hn (hS _ hb hs)
theorem InsM.kept {W W' : World} {S S' S'' : Nat → Prop} {x : Ins} {cs : List Value} (h : InsM W S x cs) (ht : Turned S'' W W') (h2 : ∀ b, b < W.heap.size → S'' b → S b) (hS : ∀ b, b < W.heap.size → S' b → S b) : InsM W' S' x cs := by
  obtain ⟨sl, a, b, c, d, e, f⟩ := h
  exact ⟨sl, a, b, c, d, e, f.kept ht h2 hS⟩
theorem IntsM.nil (W : World) (S : Nat → Prop) : IntsM W S [] (.slice none 0 0) := ⟨⟨none, 0, 0, rfl, rfl, by omega, by omega, rfl, rfl⟩, fun _ h => by simp [Value.ownBlock] at h⟩
/-- A row of ints of the call's own. -/
theorem IntsM.of_row {W : World} {S : Nat → Prop} {base : Nat} {l : List Int} {v : Value} (h : W.ownsRow base 3 1 v l.length (l.map (Value.int .i64))) (hl : ∀ x ∈ l, I64 x) (hS : ∀ b, v.ownBlock = some b → ¬ S b) : IntsM W S l v := ⟨rowInts h hl, fun b hb _ => hS b hb⟩
/-- All but the first. -/
theorem IntsM.drops {W : World} {S : Nat → Prop} {l : List Int} {b off len cap n : Nat} (h : IntsM W S l (.slice (some ⟨b, off, none⟩) len cap)) (hn : n ≤ len) : IntsM W S (l.drop n) (.slice (some ⟨b, off + n, none⟩) (len - n) (cap - n)) :=
  ⟨by simpa using h.1.drops hn, fun c hc hne => h.2 c (by simpa [Value.ownBlock] using hc) fun e => hne (by rw [e]; simp)⟩

/-- The maker's blocks. -/
def SM (mb vb : Nat) (cv : Value) (b : Nat) : Prop := b = mb ∨ b = vb ∨ cv.ownBlock = some b
/-- The maker holds so much; no instruction's list lies in the blocks of X. -/
structure MkS (W : World) (base mb vb : Nat) (cv : Value) (X : Nat → Prop) (s : MSt) : Prop where
  box : BoxL W mb 110 [cv, .int .i64 s.regs, .map (some vb)]
  row : ∃ xs, W.ownsRow base 34 5 cv s.code.length xs ∧ CellsG 5 (InsM W (fun b => SM mb vb cv b ∨ X b)) s.code xs
  vars : MapVI W vb s.vars.length (Mk.lkL s.vars)
theorem mapI_box_ne {W : World} {b c n : Nat} {f : Int → Int} {t : TypeId} {cs : List Value} (h : MapVI W b n f) (hc : BoxL W c t cs) : c ≠ b := fun e => by
  subst e
  obtain ⟨D, ⟨es, clock, hb, _⟩, _⟩ := h
  rw [show W.heap[c]? = _ from hc] at hb
  simp at hb
theorem mapI_row_ne {W : World} {base b c n k size : Nat} {f : Int → Int} {t : TypeId} {v : Value} {xs : List Value} (h : MapVI W b n f) (ho : W.ownsRow base t size v k xs) (hc : v.ownBlock = some c) : c ≠ b := fun e => by
  subst e
  obtain ⟨D, ⟨es, clock, hb, _⟩, _⟩ := h
  obtain ⟨cs, f, hr⟩ := own_row ho c hc
  rw [hr] at hb
  simp at hb
theorem ownBlock_lt {W : World} {base n size c : Nat} {e : TypeId} {v : Value} {xs : List Value} (h : W.ownsRow base e size v n xs) (hc : v.ownBlock = some c) : c < W.heap.size := by
  obtain ⟨cs, f, hr⟩ := own_row h c hc
  exact (Array.getElem?_eq_some_iff.1 hr).1
theorem ownBlock_base {W : World} {base n size c : Nat} {e : TypeId} {v : Value} {xs : List Value} (h : W.ownsRow base e size v n xs) (hc : v.ownBlock = some c) : base ≤ c := by
  rcases h.2 with ⟨rfl, _⟩ | ⟨g, cap, cur, rfl, hb, _⟩
  · simp [Value.ownBlock] at hc
  · have e : g = c := by simpa [Value.ownBlock] using hc
    omega
theorem row_same {W W' : World} {base n size : Nat} {e : TypeId} {v : Value} {xs : List Value} (h : W.ownsRow base e size v n xs) (hb : ∀ c, v.ownBlock = some c → W'.heap[c]? = W.heap[c]?) : W'.ownsRow base e size v n xs := by
  refine ⟨h.1, ?_⟩
  rcases h.2 with h0 | ⟨g, cap, cur, rfl, h2, h3, h4⟩
  · exact .inl h0
  · exact .inr ⟨g, cap, cur, rfl, h2, (hb g rfl).trans h3, h4⟩
theorem MkS.lt {W : World} {base mb vb : Nat} {cv : Value} {X : Nat → Prop} {s : MSt} (h : MkS W base mb vb cv X s) : ∀ b, SM mb vb cv b → b < W.heap.size := fun b hb => by
  rcases hb with rfl | rfl | hb
  · exact h.box.lt
  · exact h.vars.lt
  · obtain ⟨xs, hr, _⟩ := h.row
    exact ownBlock_lt hr hb
/-- It stays where nothing of its turns. -/
theorem MkS.keep {W W' : World} {base mb vb : Nat} {cv : Value} {X X' : Nat → Prop} {s : MSt} {S : Nat → Prop} (h : MkS W base mb vb cv X s) (ht : Turned S W W') (hS : ∀ b, b < W.heap.size → S b → X b ∧ ¬ SM mb vb cv b) (hX : ∀ b, b < W.heap.size → X' b → X b) : MkS W' base mb vb cv X' s := by
  obtain ⟨xs, hr, hc⟩ := h.row
  exact ⟨ht.box h.box (fun hs => (hS _ h.box.lt hs).2 (.inl rfl)), ⟨xs, row_same hr (fun c hc => ht.block c (ownBlock_lt hr hc) (fun hs => (hS _ (ownBlock_lt hr hc) hs).2 (.inr (.inr hc)))), hc.mono fun x _ cs hx => hx.kept ht (fun b hb hs => .inr (hS b hb hs).1) (fun b hb h => h.imp id (hX b hb))⟩, h.vars.same (ht.block _ h.vars.lt (fun hs => (hS _ h.vars.lt hs).2 (.inr (.inl rfl))))⟩
theorem MkS.below {W W' : World} {base mb vb : Nat} {cv : Value} {X : Nat → Prop} {s : MSt} (h : MkS W base mb vb cv X s) (hb : Below W.heap.size W W') : MkS W' base mb vb cv X s := h.keep (Turned.of_below (S := fun _ => False) hb) (fun _ _ h => h.elim) (fun _ _ h => h)
/-- A list read outside the maker's blocks stays so. -/
theorem IntsM.below {W W' : World} {S : Nat → Prop} {l : List Int} {v : Value} (h : IntsM W S l v) (hb : Below W.heap.size W W') : IntsM W' S l v := h.kept (Turned.of_below (S := fun _ => False) hb) (fun _ _ h => h.elim) (fun _ _ h => h)
/-- An instruction is laid. -/
theorem MkS.laid {w w' : World} {base mb vb : Nat} {cv : Value} {X : Nat → Prop} {s : MSt} (h : MkS w base mb vb cv X s) (x : Ins) (sl : Value) (xs : List Value) (hrow : w.ownsRow base 34 5 cv s.code.length xs) (hcell : CellsG 5 (InsM w (fun b => SM mb vb cv b ∨ X b)) s.code xs) (hop : I64 x.op) (hd : I64 x.d) (ha : I64 x.a) (hb : I64 x.b) (hl : IntsM w (fun b => SM mb vb cv b ∨ X b) x.l sl) {e : Ending}
    (hp : LayPost base mb s.code.length s.regs (.map (some vb)) cv xs [.int .i64 x.op, .int .i64 x.d, .int .i64 x.a, .int .i64 x.b, sl] w e w') :
    ∃ g cap c, e = .returned (.func (.func 165) #[] #[.pointer (some ⟨w.heap.size, 0, none⟩), .pointer (some ⟨c, 0, none⟩)]) ∧ BoxL w' w.heap.size 107 [.pointer (some ⟨mb, 0, none⟩)] ∧ BoxL w' c 3 [.int .i64 s.code.length] ∧ w.heap.size ≤ c ∧
      MkS w' base mb vb (.slice (some ⟨g, 0, none⟩) (s.code.length + 1) cap) X (s.put x) ∧ Turned (SM mb vb cv) w w' ∧ ∀ b, b < w.heap.size → SM mb vb (.slice (some ⟨g, 0, none⟩) (s.code.length + 1) cap) b → SM mb vb cv b := by
  obtain ⟨g, cap, c, rfl, h1, h2, h3, h4, h5, h6, h7⟩ := hp
  have hT : Turned (SM mb vb cv) w w' := h7.wider fun b _ hs => hs.elim .inl fun hs => .inr (.inr hs)
  have hS : ∀ b, b < w.heap.size → SM mb vb (.slice (some ⟨g, 0, none⟩) (s.code.length + 1) cap) b → SM mb vb cv b := fun b hlt hs => by
    rcases hs with hs | hs | hs
    · exact .inl hs
    · exact .inr (.inl hs)
    · have e : g = b := by simpa [Value.ownBlock] using hs
      subst e
      rcases h6 with h6 | h6
      · exact .inr (.inr h6)
      · omega
  refine ⟨g, cap, c, rfl, h3, h4, h5, ⟨h1, ⟨xs ++ [.int .i64 x.op, .int .i64 x.d, .int .i64 x.a, .int .i64 x.b, sl], ?_, ?_⟩, ?_⟩, hT, hS⟩
  · rw [show (s.put x).code.length = s.code.length + 1 by simp [MSt.put]]
    exact h2
  · have hX : ∀ b, b < w.heap.size → (SM mb vb (.slice (some ⟨g, 0, none⟩) (s.code.length + 1) cap) b ∨ X b) → (SM mb vb cv b ∨ X b) := fun b hb h => h.elim (fun h => .inl (hS b hb h)) .inr
    have h1 : CellsG 5 (InsM w' (fun b => SM mb vb (.slice (some ⟨g, 0, none⟩) (s.code.length + 1) cap) b ∨ X b)) s.code xs := hcell.mono fun y _ cs hy => hy.kept hT (fun _ _ h => .inl h) hX
    exact CellsG.snoc (x := x) (cs := [.int .i64 x.op, .int .i64 x.d, .int .i64 x.a, .int .i64 x.b, sl]) rfl ⟨sl, rfl, hop, hd, ha, hb, hl.kept hT (fun _ _ h => .inl h) hX⟩ h1
  · exact h.vars.same (h7.block _ h.vars.lt fun hs => by
      rcases hs with hs | hs
      · exact mapI_box_ne h.vars h.box hs.symm
      · exact mapI_row_ne h.vars hrow hs rfl)
end Go.Proofs.YtigkhmppnnljiaaGreatDoor

namespace Go.Proofs.YtigkhmppnnljiaaGreatDoor
open Go

def spell (f : Nat → Value) : Nat → List Bool → List Value → List Value
  | _, _, [] => []
  | _, [], l => l
  | i, true :: m, _ :: l => f i :: spell f (i + 1) m l
  | i, false :: m, v :: l => v :: spell f (i + 1) m l
theorem spell_get (f : Nat → Value) : ∀ (l : List Value) (i : Nat) (m : List Bool) (j : Nat), (spell f i m l)[j]? = (l[j]?).map fun v => if m.getD j false = true then f (i + j) else v
  | [], i, m, j => by simp [spell]
  | v :: l, i, [], j => by
    have : spell f i [] (v :: l) = v :: l := by rw [spell]; simp
    rw [this]
    cases h : (v :: l)[j]? <;> simp
  | v :: l, i, true :: m, 0 => by simp [spell]
  | v :: l, i, false :: m, 0 => by simp [spell]
  | v :: l, i, true :: m, j + 1 => by
    rw [spell, List.getElem?_cons_succ, List.getElem?_cons_succ, spell_get f l (i + 1) m j]
    simp only [List.getD_cons_succ, show i + 1 + j = i + (j + 1) by omega]
  | v :: l, i, false :: m, j + 1 => by
    rw [spell, List.getElem?_cons_succ, List.getElem?_cons_succ, spell_get f l (i + 1) m j]
    simp only [List.getD_cons_succ, show i + 1 + j = i + (j + 1) by omega]
/-- Does the mask name all slots that the first n operations write? -/
def maskB (ops : Array Oper) (n : Nat) (m : List Bool) : Bool := (List.range n).all fun i => match ops[i]? with | some o => (match o.dst with | some d => m.getD d false | none => true) | none => true
theorem act_spell {ops : Array Oper} {n : Nat} {a a0 : Act} (m : List Bool) (hB : maskB ops n m = true) (hd : a.defers = a0.defers) (hs : a.tmps.size = a0.tmps.size) (hr : Rest ops n a0 a) : ∃ f : Nat → Value, a = { tmps := (spell f 0 m a0.tmps.toList).toArray, defers := a0.defers } ∧ ∀ t, f t = a.tmps.getD t undef := by
  refine ⟨fun t => a.tmps.getD t undef, ?_, fun _ => rfl⟩
  obtain ⟨t, d⟩ := a
  obtain ⟨t0, d0⟩ := a0
  simp only at hd hs
  subst hd
  simp only [Act.mk.injEq, and_true]
  apply Array.ext_getElem?
  intro j
  have h0 : ∀ l : List Value, l.toArray[j]? = l[j]? := fun l => by simp
  rw [h0 (spell _ _ _ _), spell_get]
  rw [Array.getElem?_toList]
  by_cases hj : j < t0.size
  · rw [Array.getElem?_eq_getElem hj, Array.getElem?_eq_getElem (by rw [hs]; exact hj)]
    simp only [Option.map_some, Option.some.injEq, Nat.zero_add]
    by_cases hm : m.getD j false = true
    · rw [if_pos hm]
      simp [Array.getD, hs, hj]
    · rw [if_neg hm]
      have h1 := hr j (fun i o hi ho e => by
        have h2 := List.all_eq_true.1 hB i (List.mem_range.2 hi)
        simp only [ho, e] at h2
        exact hm h2)
      simpa [Array.getD, hs, hj] using h1
  · rw [Array.getElem?_eq_none (by omega), Array.getElem?_eq_none (by omega)]
    rfl
end Go.Proofs.YtigkhmppnnljiaaGreatDoor

namespace Go.Proofs.YtigkhmppnnljiaaGreatDoor
open Go Go.RowKit

set_option maxHeartbeats 16000000 in
set_option maxRecDepth 100000 in
theorem cright_plain (op n : Int) (v : List Int) (ts : List Trm) (ov ot : Option Addr) (lv cv lt ct : Nat) (B cb bb sb : Nat) (nc nk size : Int) (fr : Bool) (l : List Int) (sc : Int → Bool) (deep : Int) (W : World) (hc : ChkS W cb bb sb nc nk fr size l sc)
    (hvv : SlC W B 1 IntR v (.slice ov lv cv)) (htt : TrmS W B ts (.slice ot lt ct)) (hS : ∀ b, S3 cb bb sb b → B ≤ b) (hB : B ≤ W.heap.size) (hsc : ∀ v, sc v = true → v ∈ l) (ih : ∀ x ∈ ts, RightC x) (hlt : lt = ts.length) (hct : lt ≤ 1000000)
    (h0 : 0 ≤ size) (h1 : size + 1 + Trm.allL ts ≤ 20000) (h2 : 0 ≤ deep) (h3 : deep + 1 + Trm.allL ts ≤ 401) (f t le : Int) (any binds : Bool) (f1 : f ≤ 3) (f2 : 3 ≤ t) (hop : op ≠ 9) (hgr : (op == 7 || op == 9) = false)
    (HSH : ∀ W, Calls Tryz.prog 100 #[.int .i64 op] W fun e w' => e = .returned (.tuple #[.agg #[.int .i64 f, .int .i64 t, .int .i64 le, .bool any, .bool binds], .bool true]) ∧ Below W.heap.size W w')
    (HFT : ∀ W, Calls Tryz.prog 101 #[.agg #[.int .i64 f, .int .i64 t, .int .i64 le, .bool any, .bool binds], .agg #[.int .i64 op, .int .i64 n, .slice ov lv cv, .slice ot lt ct]] W fun e w' => e = .returned (.bool true) ∧ Below W.heap.size W w')
    (HNU : ∀ W, ChkS W cb bb sb nc nk fr (size + 1) l sc → Calls Tryz.prog 102 #[.pointer (some ⟨cb, 0, none⟩), .agg #[.int .i64 op, .int .i64 n, .slice ov lv cv, .slice ot lt ct], .map (some sb)] W fun e w' => e = .returned (.bool true) ∧ Below W.heap.size W w')
    (r : Bool) (hr : plainR nc nk fr sc l v ts = r) :
    Calls Tryz.prog 69 #[.pointer (some ⟨cb, 0, none⟩), .agg #[.int .i64 op, .int .i64 n, .slice ov lv cv, .slice ot lt ct], .map (some sb), .int .i64 deep] W (ChkPost cb bb sb nc nk fr r (GoodR cb bb sb nc nk fr (size + 1 + Trm.allL ts) l (Trm.bndL (ts.take (ts.length - 1)) ++ v ++ Trm.bndL (ts.drop (ts.length - 1))) sc) W) := by
  have hmf : ∀ (fn : Fn) (first cap : Array Value) (w : World), (Instr.makeFunc fn first cap).run Tryz.prog w = .ok (.func fn first cap) w := fun _ _ _ _ => rfl
  obtain ⟨W1, hW1⟩ : ∃ W1, ((((W.alloc (.cells #[.pointer (some ⟨cb, 0, none⟩)] 100)).alloc (.cells #[.int .i64 op, .int .i64 n, .slice ov lv cv, .slice ot lt ct] 41)).alloc (.cells #[.map (some sb)] 101)).alloc (.cells #[.int .i64 deep] 3)).setCell ⟨cb, 4, none⟩ (.int .i64 (size + 1)) = W1 := ⟨_, rfl⟩
  have hbelow := below_four W (.cells #[.pointer (some ⟨cb, 0, none⟩)] 100) (.cells #[.int .i64 op, .int .i64 n, .slice ov lv cv, .slice ot lt ct] 41) (.cells #[.map (some sb)] 101) (.cells #[.int .i64 deep] 3)
  have HW := Lib.hid hW1
  have HT1 := Lib.hid (show Turned (S3 cb bb sb) W W1 from by rw [← hW1]; exact (Turned.of_below hbelow).next (Turned.set _ _ _ (.inl rfl)))
  have HC1 := Lib.hid (show ChkS W1 cb bb sb nc nk fr (size + 1) l sc from by rw [← hW1]; exact (hc.keep hbelow).sized _)
  have HX1 := Lib.hid (show RBox W1 W.heap.size cb sb op n (.slice ov lv cv) (.slice ot lt ct) deep from by
    rw [← hW1]
    exact (RBox.new W cb sb op n (.slice ov lv cv) (.slice ot lt ct) deep).turned (Turned.set (S := fun b => b = cb) _ _ _ rfl) (fun b hb => by rw [hb]; exact hc.box.lt))
  have c4 := (hc.box.keep hbelow).cell 4 rfl
  have cz := (hc.box.keep hbelow).free 4
  have cl := hc.box.lt
  have HC := Lib.hid hc
  have HSH := Lib.hid HSH
  have HFT := Lib.hid HFT
  have HNU := Lib.hid HNU
  have HVV := Lib.hid hvv
  have HTT := Lib.hid htt
  have HIH := Lib.hid ih
  have HSB := Lib.hid hS
  have HSC := Lib.hid hsc
  have HR := Lib.hid hr
  have HLT := Lib.hid hlt
  clear hW1 hbelow hc hvv htt ih hS hsc hr hlt
  go_enter_defers Tryz.func69, Tryz.ntmps69
  go_upto_region 2 with fail
  rw [HW.out]
  have t0 := HX1.out.t.cell 0 rfl
  have tl := HX1.out.t.lt
  clear c4 cz cl
  go_wp2_with fail
  refine (HSH.out _).mono ?_
  rintro e w1 ⟨rfl, hb1⟩
  have HB1 := Lib.hid hb1
  clear hb1 HSH t0 tl
  go_upto_region 3 with fail
  obtain ⟨W3, hW3⟩ : ∃ W3, w1.alloc (.cells #[.int .i64 f, .int .i64 t, .int .i64 le, .bool any, .bool binds] 144) = W3 := ⟨_, rfl⟩
  have HB3 := Lib.hid (show Below W1.heap.size W1 W3 from by rw [← hW3]; exact Below.next HB1.out (Below.one w1 _))
  have B9 := Lib.hid (show BoxL W3 w1.heap.size 144 [.int .i64 f, .int .i64 t, .int .i64 le, .bool any, .bool binds] from by rw [← hW3]; exact BoxL.new rfl _ _)
  rw [hW3]
  clear hW3
  have HX3 := Lib.hid (HX1.out.turned (Turned.of_below (S := fun _ => False) HB3.out) (fun _ h => h.elim))
  have HC3 := Lib.hid (HC1.out.keep HB3.out)
  have HD := Lib.hid ((Below.refl W3.heap.size W3).drew)
  have g0 : decide (400 < deep) = false := decide_eq_false (by omega)
  have g1 : decide (20000 < size + 1) = false := decide_eq_false (by omega)
  have g2 : decide (3 < f) = false := decide_eq_false (by omega)
  have g3 : decide (t < 3) = false := decide_eq_false (by omega)
  have HF := HFT
  have HN := HNU
  refine wp_region_quiet_all (Below W3.heap.size W3) (by kernel_rfl) (by kernel_rfl) HD.out ?_
  intro T0 _ WW HWW HWW2
  have x0 : ∀ t, (WW t).cell? _ = _ := fun t => ((HWW t).cell (p := ⟨W.heap.size, 0, none⟩) HX3.out.c.lt).trans (HX3.out.c.cell 0 rfl)
  have x1 : ∀ t, (WW t).cell? _ = _ := fun t => ((HWW t).cell (p := ⟨W.heap.size + 1, 0, none⟩) HX3.out.t.lt).trans (HX3.out.t.cell 0 rfl)
  have x2 : ∀ t, (WW t).cell? _ = _ := fun t => ((HWW t).cell (p := ⟨W.heap.size + 1, 1, none⟩) HX3.out.t.lt).trans (HX3.out.t.cell 1 rfl)
  have x3 : ∀ t, (WW t).cell? _ = _ := fun t => ((HWW t).cell (p := ⟨W.heap.size + 1, 2, none⟩) HX3.out.t.lt).trans (HX3.out.t.cell 2 rfl)
  have x4 : ∀ t, (WW t).cell? _ = _ := fun t => ((HWW t).cell (p := ⟨W.heap.size + 1, 3, none⟩) HX3.out.t.lt).trans (HX3.out.t.cell 3 rfl)
  have x5 : ∀ t, (WW t).cell? _ = _ := fun t => ((HWW t).cell (p := ⟨W.heap.size + 1 + 1, 0, none⟩) HX3.out.s.lt).trans (HX3.out.s.cell 0 rfl)
  have x6 : ∀ t, (WW t).cell? _ = _ := fun t => ((HWW t).cell (p := ⟨W.heap.size + 1 + 1 + 1, 0, none⟩) HX3.out.d.lt).trans (HX3.out.d.cell 0 rfl)
  have y0 : ∀ t, (WW t).cell? _ = _ := fun t => ((HWW t).cell (p := ⟨cb, 0, none⟩) HC3.out.box.lt).trans (HC3.out.box.cell 0 rfl)
  have y4 : ∀ t, (WW t).cell? _ = _ := fun t => ((HWW t).cell (p := ⟨cb, 4, none⟩) HC3.out.box.lt).trans (HC3.out.box.cell 4 rfl)
  have z0 : ∀ t, (WW t).cell? _ = _ := fun t => ((HWW t).cell (p := ⟨w1.heap.size, 0, none⟩) B9.out.lt).trans (B9.out.cell 0 rfl)
  have z1 : ∀ t, (WW t).cell? _ = _ := fun t => ((HWW t).cell (p := ⟨w1.heap.size, 1, none⟩) B9.out.lt).trans (B9.out.cell 1 rfl)
  have z2 : ∀ t, (WW t).cell? _ = _ := fun t => ((HWW t).cell (p := ⟨w1.heap.size, 2, none⟩) B9.out.lt).trans (B9.out.cell 2 rfl)
  have z3 : ∀ t, (WW t).cell? _ = _ := fun t => ((HWW t).cell (p := ⟨w1.heap.size, 3, none⟩) B9.out.lt).trans (B9.out.cell 3 rfl)
  have z4 : ∀ t, (WW t).cell? _ = _ := fun t => ((HWW t).cell (p := ⟨w1.heap.size, 4, none⟩) B9.out.lt).trans (B9.out.cell 4 rfl)
  have HWH := Lib.hid HWW
  have HW2 := Lib.hid HWW2
  clear HWW HWW2
  have HC0 : Hid (∀ t', Calls Tryz.prog 101 #[.agg #[.int .i64 f, .int .i64 t, .int .i64 le, .bool any, .bool binds], .agg #[.int .i64 op, .int .i64 n, .slice ov lv cv, .slice ot lt ct]] (WW t') fun e w' => e = .returned (.bool true) ∧ ∃ t'', w' = WW t'') := Lib.hid (fun t' => calls_class HW2.out ((HF.out (WW t')).mono fun e w' h => ⟨h.1, Below.next (HWH.out t') h.2⟩))
  have HC1 : Hid (∀ t', Calls Tryz.prog 102 #[.pointer (some ⟨cb, 0, none⟩), .agg #[.int .i64 op, .int .i64 n, .slice ov lv cv, .slice ot lt ct], .map (some sb)] (WW t') fun e w' => e = .returned (.bool true) ∧ ∃ t'', w' = WW t'') := Lib.hid (fun t' => calls_class HW2.out ((HN.out (WW t') (HC3.out.keep (HWH.out t'))).mono fun e w' h => ⟨h.1, Below.next (HWH.out t') h.2⟩))
  repeat (go_big_quiet_step (first | (go_at_call 101; exact HC0.out _) | (go_at_call 102; exact HC1.out _)))
  refine wpQuiet_nil ?_
  intro t'
  obtain ⟨W4, hW4⟩ : ∃ W4, WW t' = W4 := ⟨_, rfl⟩
  have HB4 := Lib.hid (show Below W3.heap.size W3 W4 from hW4 ▸ HWH.out t')
  rw [hW4]
  clear x0 x1 x2 x3 x4 x5 x6 y0 y4 z0 z1 z2 z3 z4 HC0 HC1 hW4 HWH HW2 B9 HD
  have HX4 := Lib.hid (HX3.out.turned (Turned.of_below (S := fun _ => False) HB4.out) (fun _ h => h.elim))
  have HC4 := Lib.hid (HC3.out.keep HB4.out)
  have HT4 := Lib.hid (HT1.out.next (Turned.of_below (Below.next HB3.out HB4.out)))
  have HSh := Lib.hid (show ∀ b, S3 cb bb sb b → b < W.heap.size from fun b hb => by
    rcases hb with rfl | rfl | rfl
    · exact HC.out.box.lt
    · exact HC.out.bound.lt
    · exact HC.out.scope.lt)
  clear HX3 HC3 HB3 HF HN HFT HNU HT1 HC1 HX1 HW HB1
  have x0 := HX4.out.t.cell 0 rfl
  have x1 := HX4.out.t.cell 1 rfl
  have x2 := HX4.out.t.cell 2 rfl
  have x3 := HX4.out.t.cell 3 rfl
  have xl := HX4.out.t.lt
  go_wp2_with fail
  refine (group_any op n _ _ ov ot lv cv lt ct rfl rfl W4).mono ?_
  rintro e w5 ⟨rfl, hb5⟩
  rw [hgr]
  have HT5 := Lib.hid (HT4.out.next (Turned.of_below (S := S3 cb bb sb) hb5))
  have HX5 := Lib.hid (HX4.out.turned (Turned.of_below (S := fun _ => False) hb5) (fun _ h => h.elim))
  have HC5 := Lib.hid (HC4.out.keep hb5)
  clear x0 x1 x2 x3 xl hb5 HX4 HC4 HT4 HB4
  have x0 := HX5.out.t.cell 3 rfl
  have xl := HX5.out.t.lt
  go_wp2_with fail
  go_loopg [12] (lt - 1) (fun g i wr => ∃ j : Nat, g = (lt - 1) - j ∧ i = .int .i64 j ∧ j ≤ lt - 1 ∧ Hid (okL nc nk fr sc l (ts.take j) = true) ∧ Hid (GoodR cb bb sb nc nk fr (size + 1 + Trm.allL (ts.take j)) l (Trm.bndL (ts.take j)) sc wr) ∧ Hid (Turned (S3 cb bb sb) w5 wr))
  case atStart => exact ⟨0, rfl, rfl, by omega, Lib.hid (by rw [List.take_zero, okL, Trm.bndL, List.append_nil, HC.out.new]; rfl), Lib.hid ⟨l, by simp [Trm.bndL], by rw [List.take_zero, Trm.allL]; simpa using HC5.out⟩, Lib.hid (Turned.refl _ _)⟩
  case round =>
    obtain ⟨j, rfl, rfl, hj, HOK, HG, HTU⟩ := hrel
    clear x0 xl
    have HXR := Lib.hid (HX5.out.turned HTU.out HSh.out)
    have HTR := Lib.hid (HT5.out.next HTU.out)
    by_cases hjl : j + 1 < lt
    · obtain ⟨x, hx⟩ : ∃ x, ts[j]? = some x := ⟨_, List.getElem?_eq_getElem (by rw [← HLT.out]; omega)⟩
      obtain ⟨b, off, cs, ho, _, hcl, hcell, hir⟩ := SlC.at HTT.out (HTR.out.below HSB.out hB) hx
      subst ho
      match cs, hcl with
      | [c0, c1, c2, c3], _ =>
        have e0 := hcell 0 _ rfl
        have e1 := hcell 1 _ rfl
        have e2 := hcell 2 _ rfl
        have e3 := hcell 3 _ rfl
        simp only [Nat.add_zero] at e0
        have E0 := Lib.hid e0
        have E1 := Lib.hid e1
        have E2 := Lib.hid e2
        have E3 := Lib.hid e3
        have hbl := cell_lt e0
        have HX := Lib.hid hx
        have HIR := Lib.hid (TrmR.kept (HTR.out.below HSB.out hB) _ _ hir)
        have HD := Lib.hid ((Below.refl wr.heap.size wr).drew)
        clear hx hir hcell e0 e1 e2 e3
        go_wp2_with fail
        refine wp_region_quiet_class (Below wr.heap.size wr) 9 (by kernel_rfl) (by kernel_rfl) HD.out ?_
        intro T0 _ WW HWW HWW2
        have x0 : ∀ t, (WW t).cell? _ = _ := fun t => ((HWW t).cell (p := ⟨W.heap.size, 0, none⟩) HXR.out.c.lt).trans (HXR.out.c.cell 0 rfl)
        have x4 : ∀ t, (WW t).cell? _ = _ := fun t => ((HWW t).cell (p := ⟨W.heap.size + 1, 3, none⟩) HXR.out.t.lt).trans (HXR.out.t.cell 3 rfl)
        have x5 : ∀ t, (WW t).cell? _ = _ := fun t => ((HWW t).cell (p := ⟨W.heap.size + 1 + 1, 0, none⟩) HXR.out.s.lt).trans (HXR.out.s.cell 0 rfl)
        have x6 : ∀ t, (WW t).cell? _ = _ := fun t => ((HWW t).cell (p := ⟨W.heap.size + 1 + 1 + 1, 0, none⟩) HXR.out.d.lt).trans (HXR.out.d.cell 0 rfl)
        have j0 : ∀ t, (WW t).cell? _ = _ := fun t => ((HWW t).cell (p := ⟨b, off + j * 4, none⟩) hbl).trans E0.out
        have j1 : ∀ t, (WW t).cell? _ = _ := fun t => ((HWW t).cell (p := ⟨b, off + j * 4 + 1, none⟩) hbl).trans E1.out
        have j2 : ∀ t, (WW t).cell? _ = _ := fun t => ((HWW t).cell (p := ⟨b, off + j * 4 + 2, none⟩) hbl).trans E2.out
        have j3 : ∀ t, (WW t).cell? _ = _ := fun t => ((HWW t).cell (p := ⟨b, off + j * 4 + 3, none⟩) hbl).trans E3.out
        have HWH := Lib.hid HWW
        clear HWW HWW2
        simp only [List.take_succ_cons, List.take_zero, List.drop_succ_cons, List.drop_zero]
        repeat (go_big_quiet_step (fail))
        refine wpQuiet_nil ?_
        intro t'
        obtain ⟨W6, hW6⟩ : ∃ W6, WW t' = W6 := ⟨_, rfl⟩
        have HB6 := Lib.hid (show Below wr.heap.size wr W6 from hW6 ▸ HWH.out t')
        rw [hW6]
        clear x0 x4 x5 x6 j0 j1 j2 j3 hW6 HWH
        obtain ⟨lj, hp, hcj⟩ := HG.out
        have HP := Lib.hid hp
        have HCJ := Lib.hid hcj
        have hsn := allL_snoc HX.out
        have hle := allLT_take ts (j + 1)
        have HST := Lib.hid (okL_step (nc := nc) (nk := nk) (fr := fr) (sc := sc) HX.out hp HOK.out)
        have HCC := Lib.hid (HIH.out x (List.mem_of_getElem? HX.out) c0 c1 c2 c3 B cb bb sb nc nk _ fr lj sc (deep + 1) W6 (TrmR.kept (Below.mono HB6.out (by have := HTR.out.size; omega)) _ _ HIR.out) HSB.out (by have := HTR.out.size; have := HB6.out.size; omega) (HCJ.out.keep HB6.out) (fun v hv => HP.out.mem_iff.2 (List.mem_append_left _ (HSC.out v hv))) (by omega) (by omega) (by omega) (by omega))
        obtain ⟨q, hq⟩ : ∃ q, (Trm.wf nc nk fr x sc && Trm.newB (fun _ => false) (lj ++ x.bnd)) = q := ⟨_, rfl⟩
        rw [hq] at HCC HST
        have HSN := Lib.hid hsn
        clear hp hcj hq hle hsn
        go_wp2_with fail
        refine HCC.out.mono ?_
        rintro e7 w7 ⟨rfl, ht7, hg7, hb7⟩
        have HT7 := Lib.hid ((Turned.of_below (S := S3 cb bb sb) HB6.out).next ht7)
        have HG7 := Lib.hid hg7
        have HBD := Lib.hid hb7
        clear ht7 hg7 hb7 HCC
        cases q with
        | false =>
          have hb7 := HBD.out rfl
          obtain rfl : r = false := by rw [← HR.out, plainR, okL_more (j := j + 1) (by rw [List.take_take, Nat.min_eq_left (by have := HLT.out; omega)]; exact HST.out)]; rfl
          go_wp2_with fail
          exact ⟨_, results_tmp rfl _ _ _, rfl, HTR.out.next HT7.out, fun h => (by simp at h), fun _ => hb7⟩
        | true =>
          have HGN := Lib.hid (show GoodR cb bb sb nc nk fr (size + 1 + Trm.allL (ts.take (j + 1))) l (Trm.bndL (ts.take (j + 1))) sc w7 from by
            obtain ⟨l2, hp2, hcs2⟩ := HG7.out rfl
            refine ⟨l2, ?_, ?_⟩
            · rw [bndL_snoc HX.out, ← List.append_assoc]
              exact hp2.trans (HP.out.append_right _)
            · rw [HSN.out, show size + 1 + ((Trm.allL (ts.take j) + x.all : Nat) : Int) = size + 1 + (Trm.allL (ts.take j) : Nat) + (x.all : Nat) by omega]
              exact hcs2)
          go_wp2_with fail
          go_roundg (lt - 1 - (j + 1))
          case measure => omega
          case rel => exact ⟨j + 1, rfl, by go_num, by omega, HST, HGN, Lib.hid (HTU.out.next HT7.out)⟩
    · obtain rfl : j = lt - 1 := by omega
      have HLE := Lib.hid (show lt - 1 = ts.length - 1 by rw [HLT.out])
      obtain ⟨lj, hp, hcj⟩ := HG.out
      rw [HLE.out] at hp hcj
      have HOK2 := HOK.out
      rw [HLE.out] at HOK2
      have HOK3 := Lib.hid HOK2
      have HP := Lib.hid hp
      have HCJ := Lib.hid hcj
      have x1 := HXR.out.t.cell 2 rfl
      have xl := HXR.out.t.lt
      have x2 := HXR.out.c.cell 0 rfl
      have xl2 := HXR.out.c.lt
      have x3 := HXR.out.s.cell 0 rfl
      have xl3 := HXR.out.s.lt
      have hjl2 : decide (((lt - 1 : Nat) : Int) < (lt : Int) - 1) = false := decide_eq_false (by omega)
      clear hp hcj HOK2
      have HBI := Lib.hid (bind_any cb bb sb nc nk fr _ lj v sc B wr ov lv cv (HVV.out.kept (HTR.out.below HSB.out hB) fun _ _ _ h => h) HSB.out (by have := HTR.out.size; omega) HCJ.out)
      obtain ⟨q, hq⟩ : ∃ q, Trm.newB (fun _ => false) (lj ++ v) = q := ⟨_, rfl⟩
      rw [hq] at HBI
      have HQ := Lib.hid hq
      clear hq
      go_wp2_with fail
      with_reducible refine HBI.out.mono ?_
      rintro e8 w8 ⟨rfl, ht8, hg8, hb8⟩
      have HT8 := Lib.hid (HTR.out.next ht8)
      have HG8 := Lib.hid hg8
      have HB8 := Lib.hid hb8
      have HX8 := Lib.hid (HXR.out.turned ht8 HSh.out)
      clear ht8 hg8 hb8 HBI x1 xl x2 xl2 x3 xl3
      cases q with
      | false =>
        obtain ⟨⟨sz, hb1⟩, ⟨m, g, hb2⟩, ⟨m2, g2, hb3⟩, hne⟩ := HB8.out rfl
        obtain rfl : r = false := by
          rw [← HR.out, plainR, ← Trm.newB_perm ((HP.out).append_right v), HQ.out]
          simp
        go_wp2_with fail
        refine leaves_cons (f := 104) (args := #[.pointer (some ⟨W.heap.size + 1, 0, none⟩), .pointer (some ⟨W.heap.size + 1 + 1, 0, none⟩)]) (by simp) (by simp [go_sem]) ?_
        refine (right1_deferred op n v ov ot lv cv lt ct B (W.heap.size + 1) (W.heap.size + 1 + 1) sb m2 g2 w8 (HVV.out.kept (HT8.out.below HSB.out hB) fun _ _ _ h => h) (by have := HT8.out.size; omega) (HSB.out sb (.inr (.inr rfl))) HX8.out.t HX8.out.s hb3).mono ?_
        rintro e9 u9 w9 ⟨rfl, rfl, hm9, ht9⟩
        refine ⟨_, results_tmp rfl _ _ _, rfl, HT8.out.next (ht9.wider fun b _ hb => .inr (.inr hb)), fun h => (by simp at h), fun _ => ⟨⟨sz, ht9.box hb1 (fun e => map_box_ne hb3 hb1 e)⟩, ⟨m, g, hb2.same (ht9.block _ hb2.lt (fun e => hne e))⟩, ⟨_, _, hm9⟩, hne⟩⟩
      | true =>
        have hg8 := HG8.out rfl
        have HC8 := Lib.hid hg8
        clear hg8
        have x0 := HX8.out.t.cell 0 rfl
        have x1 := HX8.out.t.cell 1 rfl
        have x2 := HX8.out.t.cell 2 rfl
        have x3 := HX8.out.t.cell 3 rfl
        have xl := HX8.out.t.lt
        go_wp2_with fail
        with_reducible refine (group_any op n _ _ ov ot lv cv lt ct rfl rfl w8).mono ?_
        rintro e9 w9 ⟨rfl, hb9⟩
        rw [hgr]
        have HT9 := Lib.hid (HT8.out.next (Turned.of_below (S := S3 cb bb sb) hb9))
        have HX9 := Lib.hid (HX8.out.turned (Turned.of_below (S := fun _ => False) hb9) (fun _ h => h.elim))
        have HC9 := Lib.hid (HC8.out.keep hb9)
        clear x0 x1 x2 x3 xl hb9 HX8 HC8
        have hmx : max ((lt : Int) - 1) 0 = ((lt - 1 : Nat) : Int) := by omega
        have HDW := Lib.hid (Below.drew (Below.refl w9.heap.size w9))
        have HAL := Lib.hid (show size + 1 + ((Trm.allL (ts.take (ts.length - 1)) : Nat) : Int) + ((Trm.allL (ts.drop (ts.length - 1)) : Nat) : Int) = size + 1 + ((Trm.allL ts : Nat) : Int) from by
          have := allL_append (ts.take (ts.length - 1)) (ts.drop (ts.length - 1))
          rw [List.take_append_drop] at this
          omega)
        have HSC2 := Lib.hid (show ∀ x, Trm.addV sc v x = true → x ∈ lj ++ v from fun x hx => by
          simp only [Trm.addV, Bool.or_eq_true, List.contains_eq_mem, decide_eq_true_eq] at hx
          rcases hx with hx | hx
          · exact List.mem_append_left _ (HP.out.mem_iff.2 (List.mem_append_left _ (HSC.out x hx)))
          · exact List.mem_append_right _ hx)
        have HDJ := Lib.hid (show ∀ x, sc x = true → x ∉ v from fun x hx hv => (List.nodup_append.1 ((Trm.newB_iff _ _).1 HQ.out).2).2.2 x (HP.out.mem_iff.2 (List.mem_append_left _ (HSC.out x hx))) x hv rfl)
        have HTS := Lib.hid (TrmS.kept HTT.out ((HT9.out.next (Turned.of_below HDW.out)).below HSB.out hB))
        obtain ⟨q2, hq2⟩ : ∃ q2, okL nc nk fr (Trm.addV sc v) (lj ++ v) (ts.drop (ts.length - 1)) = q2 := ⟨_, rfl⟩
        have HQ2 := Lib.hid hq2
        clear hq2
        go_upto_region 17 with fail
        go_cut [13] from 14 to 125 (fun b wx => b = .int .i64 ((lt - 1 : Nat) : Int) ∧ w9 = wx)
        case first => as_aux_lemma =>
          go_wp2_with fail
          go_meet
          exact ⟨by first | rfl | (rw [hmx]) | (simp; omega), rfl⟩
        case rest =>
        obtain ⟨rfl, rfl⟩ := hcut
        go_upto_region 18 with fail
        go_cut [8] from 9 to 125 (fun c wx => c = .bool q2 ∧ Hid (Turned (S3 cb bb sb) w9 wx) ∧ Hid (q2 = true → GoodR cb bb sb nc nk fr (size + 1 + Trm.allL (ts.take (ts.length - 1)) + Trm.allL (ts.drop (ts.length - 1))) (lj ++ v) (Trm.bndL (ts.drop (ts.length - 1))) (Trm.addV sc v) wx) ∧ Hid (q2 = false → ChkX wx cb bb sb nc nk fr))
        case first => as_aux_lemma =>
          rename_i J KK hRJ hMK
          obtain ⟨SLV, hSLV⟩ : ∃ SLV, SLV = slv ot lt ct := ⟨_, rfl⟩
          have HSLV := Lib.hid hSLV
          have HSE0 := Lib.hid (show ∀ W6, Below w9.heap.size w9 W6 → _ from fun W6 hb6 => search_any (ts.drop (ts.length - 1)) (fun x hx => HIH.out x (List.mem_of_mem_drop hx)) SLV B cb bb sb nc nk (size + 1 + Trm.allL (ts.take (ts.length - 1))) fr (lj ++ v) (Trm.addV sc v) deep W.heap.size op n _ _ W6 (by rw [hSLV, ← HLT.out]; exact slv_terms (TrmS.kept HTT.out ((HT9.out.next (Turned.of_below hb6)).below HSB.out hB))) HSB.out HSh.out (by have := HT9.out.size; have := hb6.size; omega) (HC9.out.keep hb6) HSC2.out (by omega) (by have := HAL.out; omega) (by omega) (by have := HAL.out; omega) (HX9.out.turned (Turned.of_below (S := fun _ => False) hb6) (fun _ h => h.elim)))
          rw [HQ2.out] at HSE0
          clear hSLV
          cases q2 with
          | false =>
            refine wp_region_mid_class (Below w9.heap.size w9) 5 (by kernel_rfl) (by kernel_rfl) HDW.out ?_
            intro T0 _ WW HWW HWW2
            have x3 : ∀ t, (WW t).cell? _ = _ := fun t => ((HWW t).cell (p := ⟨W.heap.size + 1, 3, none⟩) HX9.out.t.lt).trans (HX9.out.t.cell 3 rfl)
            have HWH := Lib.hid HWW
            clear HWW HWW2
            simp only [List.take_succ_cons, List.take_zero, List.drop_succ_cons, List.drop_zero]
            go_big_quiet_step (fail)
            go_big_quiet_step (fail)
            go_big_quiet_step (fail)
            refine BigFrame.wpQuiet_want (by kernel_rfl) (fun K hK => ?_)
            refine ⟨SLV, fun w _ => quietAt_of ?_, ?_⟩
            · (
                rw [HSLV.out]
                cases ot with
                | none =>
                  obtain ⟨rfl, rfl⟩ := slv_none HTS.out
                  go_simp
                  rfl
                | some a =>
                  have hcc := (SlC.lens HTS.out).2.1
                  by_cases hl0 : lt = 0
                  · subst hl0
                    by_cases hc0 : ct = 0
                    · subst hc0
                      go_simp
                      simp [slv]
                    · go_simp
                      simp [slv, hc0, Addr.add_zero']
                  · obtain ⟨L, rfl⟩ : ∃ L, lt = L + 1 := ⟨lt - 1, by omega⟩
                    have hLL : (L : Int) ≤ (L : Int) + 1 := by omega
                    have hcl : ¬ ct = L := by omega
                    go_simp
                    simp [slv, hcl]
                    try rfl)
            refine hK _ ?_
            clear hK K
            simp only [Act.put, List.setIfInBounds_toArray, List.set_cons_succ, List.set_cons_zero]
            go_big_quiet_step (fail)
            refine wpQuiet_nil ?_
            intro t'
            obtain ⟨W6, hW6⟩ : ∃ W6, WW t' = W6 := ⟨_, rfl⟩
            have HB6 := Lib.hid (show Below w9.heap.size w9 W6 from hW6 ▸ HWH.out t')
            rw [hW6]
            clear x3 hW6 HWH
            have HSE := Lib.hid (HSE0.out W6 HB6.out)
            go_wp2_with fail
            with_reducible refine HSE.out.mono ?_
            rintro e10 w10 ⟨rfl, ht10, hg10, hb10⟩
            have HT10 := Lib.hid ((Turned.of_below (S := S3 cb bb sb) HB6.out).next ht10)
            have HX10 := Lib.hid (hb10 rfl)
            clear ht10 hg10 hb10 HSE HSE0
            go_wp2_with fail
            refine mid_rest (Below w10.heap.size w10) (Below.refl _ _) ?_
            intro T1 _ W1' HW1 HW2
            have HW1H := Lib.hid HW1
            skip
            clear HW1 HW2
            repeat (go_big_quiet_step (fail))
            refine wpQuiet_nil ?_
            intro t'
            obtain ⟨W7, hW7⟩ : ∃ W7, W1' t' = W7 := ⟨_, rfl⟩
            have HB7 := Lib.hid (show Below w10.heap.size w10 W7 from hW7 ▸ HW1H.out t')
            rw [hW7]
            have HTC := Lib.hid (HT10.out.next (Turned.of_below HB7.out))
            clear hW7 HW1H
            go_simp
            first | (refine Met.intro ?_) | skip
            first | (refine hRJ _ _ ?_) | (refine hMK _ _ (Met.intro (hRJ _ _ ?_)))
            repeat apply Exists.intro
            refine ⟨?_, rfl⟩
            exact ⟨rfl, HTC, Lib.hid (fun h => by cases h), Lib.hid (fun _ => HX10.out.keep HB7.out)⟩
          | true =>
            have fop : (op != 9) = true := by simpa using hop
            refine wp_region_mid_class (Below w9.heap.size w9) 5 (by kernel_rfl) (by kernel_rfl) HDW.out ?_
            intro T0 _ WW HWW HWW2
            have x3 : ∀ t, (WW t).cell? _ = _ := fun t => ((HWW t).cell (p := ⟨W.heap.size + 1, 3, none⟩) HX9.out.t.lt).trans (HX9.out.t.cell 3 rfl)
            have HWH := Lib.hid HWW
            clear HWW HWW2
            simp only [List.take_succ_cons, List.take_zero, List.drop_succ_cons, List.drop_zero]
            go_big_quiet_step (fail)
            go_big_quiet_step (fail)
            go_big_quiet_step (fail)
            refine BigFrame.wpQuiet_want (by kernel_rfl) (fun K hK => ?_)
            refine ⟨SLV, fun w _ => quietAt_of ?_, ?_⟩
            · (
                rw [HSLV.out]
                cases ot with
                | none =>
                  obtain ⟨rfl, rfl⟩ := slv_none HTS.out
                  go_simp
                  rfl
                | some a =>
                  have hcc := (SlC.lens HTS.out).2.1
                  by_cases hl0 : lt = 0
                  · subst hl0
                    by_cases hc0 : ct = 0
                    · subst hc0
                      go_simp
                      simp [slv]
                    · go_simp
                      simp [slv, hc0, Addr.add_zero']
                  · obtain ⟨L, rfl⟩ : ∃ L, lt = L + 1 := ⟨lt - 1, by omega⟩
                    have hLL : (L : Int) ≤ (L : Int) + 1 := by omega
                    have hcl : ¬ ct = L := by omega
                    go_simp
                    simp [slv, hcl]
                    try rfl)
            refine hK _ ?_
            clear hK K
            simp only [Act.put, List.setIfInBounds_toArray, List.set_cons_succ, List.set_cons_zero]
            go_big_quiet_step (fail)
            refine wpQuiet_nil ?_
            intro t'
            obtain ⟨W6, hW6⟩ : ∃ W6, WW t' = W6 := ⟨_, rfl⟩
            have HB6 := Lib.hid (show Below w9.heap.size w9 W6 from hW6 ▸ HWH.out t')
            rw [hW6]
            clear x3 hW6 HWH
            have HSE := Lib.hid (HSE0.out W6 HB6.out)
            go_wp2_with fail
            with_reducible refine HSE.out.mono ?_
            rintro e10 w10 ⟨rfl, ht10, hg10, hb10⟩
            have HT10 := Lib.hid ((Turned.of_below (S := S3 cb bb sb) HB6.out).next ht10)
            have HG10 := Lib.hid (hg10 rfl)
            have HXN := Lib.hid (HX9.out.turned HT10.out HSh.out)
            clear ht10 hg10 hb10 HSE HSE0
            go_wp2_with fail
            refine mid_rest (Below w10.heap.size w10) (Below.refl _ _) ?_
            intro T1 _ W1' HW1 HW2
            have HW1H := Lib.hid HW1
            have y0 : ∀ t, (W1' t).cell? _ = _ := fun t => ((HW1 t).cell (p := ⟨W.heap.size + 1, 0, none⟩) HXN.out.t.lt).trans (HXN.out.t.cell 0 rfl)
            clear HW1 HW2
            repeat (go_big_quiet_step (fail))
            refine wpQuiet_nil ?_
            intro t'
            obtain ⟨W7, hW7⟩ : ∃ W7, W1' t' = W7 := ⟨_, rfl⟩
            have HB7 := Lib.hid (show Below w10.heap.size w10 W7 from hW7 ▸ HW1H.out t')
            rw [hW7]
            have HTC := Lib.hid (HT10.out.next (Turned.of_below HB7.out))
            clear hW7 HW1H
            go_simp
            first | (refine Met.intro ?_) | skip
            first | (refine hRJ _ _ ?_) | (refine hMK _ _ (Met.intro (hRJ _ _ ?_)))
            repeat apply Exists.intro
            refine ⟨?_, rfl⟩
            exact ⟨rfl, HTC, Lib.hid (fun _ => GoodR.keep HG10.out HB7.out), Lib.hid (fun h => by cases h)⟩
        case rest =>
          obtain ⟨rfl, hTC, hGC, hXC⟩ := hcut
          have HTN := Lib.hid (HT9.out.next hTC.out)
          have HXN := Lib.hid (HX9.out.turned hTC.out HSh.out)
          cases q2 with
          | false =>
            obtain ⟨⟨sz, hb1⟩, ⟨m, g, hb2⟩, ⟨m2, g2, hb3⟩, hne⟩ := hXC.out rfl
            obtain rfl : r = false := by
              rw [← HR.out, plainR, ← okL_perm ((HP.out).append_right v), HQ2.out]
              simp
            go_wp2_with fail
            refine leaves_cons (f := 104) (args := #[.pointer (some ⟨W.heap.size + 1, 0, none⟩), .pointer (some ⟨W.heap.size + 1 + 1, 0, none⟩)]) (by simp) (by simp [go_sem]) ?_
            refine (right1_deferred op n v ov _ lv cv _ ct B (W.heap.size + 1) (W.heap.size + 1 + 1) sb m2 g2 wc (HVV.out.kept (HTN.out.below HSB.out hB) fun _ _ _ h => h) (by have := HTN.out.size; omega) (HSB.out sb (.inr (.inr rfl))) HXN.out.t HXN.out.s hb3).mono ?_
            rintro e11 u11 w11 ⟨rfl, rfl, hm11, ht11⟩
            exact ⟨_, results_tmp rfl _ _ _, rfl, HTN.out.next (ht11.wider fun b _ hb => .inr (.inr hb)), fun h => (by simp at h), fun _ => ⟨⟨sz, ht11.box hb1 (fun e => map_box_ne hb3 hb1 e)⟩, ⟨m, g, hb2.same (ht11.block _ hb2.lt (fun e => hne e))⟩, ⟨_, _, hm11⟩, hne⟩⟩
          | true =>
            obtain ⟨l', hp', hcs⟩ := hGC.out rfl
            obtain rfl : r = true := by
              rw [← HR.out, plainR, ← okL_perm ((HP.out).append_right v), HQ2.out, HOK3.out, ← Trm.newB_perm ((HP.out).append_right v), HQ.out]
              rfl
            go_wp2_with fail
            refine leaves_cons (f := 104) (args := #[.pointer (some ⟨W.heap.size + 1, 0, none⟩), .pointer (some ⟨W.heap.size + 1 + 1, 0, none⟩)]) (by simp) (by simp [go_sem]) ?_
            refine (right1_deferred op n v ov _ lv cv _ ct B (W.heap.size + 1) (W.heap.size + 1 + 1) sb l'.length (Trm.addV sc v) wc (HVV.out.kept (HTN.out.below HSB.out hB) fun _ _ _ h => h) (by have := HTN.out.size; omega) (HSB.out sb (.inr (.inr rfl))) HXN.out.t HXN.out.s hcs.scope).mono ?_
            rintro e11 u11 w11 ⟨rfl, rfl, hm11, ht11⟩
            refine ⟨_, results_tmp rfl _ _ _, rfl, HTN.out.next (ht11.wider fun b _ hb => .inr (.inr hb)), fun _ => ⟨l', ?_, ?_⟩, fun h => (by simp at h)⟩
            · refine hp'.trans ?_
              have h1 := ((HP.out).append_right v).append_right (Trm.bndL (ts.drop (ts.length - 1)))
              simpa only [List.append_assoc] using h1
            · have h1 := right_close hcs hm11 ht11 HDJ.out
              rw [HAL.out] at h1
              exact h1
end Go.Proofs.YtigkhmppnnljiaaGreatDoor

/-
  What the proofs lean on: Zp, MkJ, Zh.
-/
import Derived.Test.YtigkhmppnnljiaaGreatDoorLsoA26
import Derived.Test.YtigkhmppnnljiaaGreatDoorLsoA35
import Derived.Test.YtigkhmppnnljiaaGreatDoorLsoA36
set_option maxRecDepth 100000
set_option maxHeartbeats 16000000
namespace Go.Proofs.YtigkhmppnnljiaaGreatDoor
section
open Go Go.RowKit Mk
theorem step_append_put {W : World} {ops : Array Oper} {o : Oper} {a : Act} {K : Act → World → Prop} {Q : Exit → Act → World → Prop} {E : Prop} (hgd : o.guard = none) (s x : Operand)
  (ho : o.op = .call { callee := .builtin .append, args := #[s, x], argTypes := #[28, 28] }) (base k mb : Nat) (cv : Value) (xs rs : List Value) (p d q b : Int) (ol : Option Addr) (ll cl : Nat) (hs : a.eval s = cv)
  (hown : Hid (W.ownsRow base 34 5 cv k xs)) (hm : Hid (BoxL W mb 119 (cv :: rs))) (hx : a.eval x = .slice (some ⟨W.heap.size, 0, none⟩) 1 1) (hk : k ≤ 1000000) (hb : base ≤ W.heap.size)
  (h : ∀ g cap w', Hid (w'.ownsRow base 34 5 (.slice (some ⟨g, 0, none⟩) (k + 1) cap) (k + 1) (xs ++ [.int .i64 p, .int .i64 d, .int .i64 q, .int .i64 b, .slice ol ll cl])) → Hid ((W.alloc (.cells #[.int .i64 p, .int .i64 d, .int .i64 q, .int .i64 b, .slice ol ll cl] 34)).grownBy w' cv.ownBlock) → Hid (cv.ownBlock = some g ∨ g = W.heap.size + 1) →
   Hid (BoxL w' mb 119 (cv :: rs)) → w'.cell? ⟨mb, 0, none⟩ = some cv → w'.frozen? ⟨mb, 0, none⟩ = false → mb < w'.heap.size → K (a.put o.dst (.slice (some ⟨g, 0, none⟩) (k + 1) cap)) w') :
  if Region.wanted o (yielded ops a.tmps) = true then Oper.wp Tryz.prog o a (W.alloc (.cells #[.int .i64 p, .int .i64 d, .int .i64 q, .int .i64 b, .slice ol ll cl] 34)).drew K Q else E := by
 have hw : Region.wanted o (yielded ops a.tmps) = true := by simp [Region.wanted, hgd]
 rw [if_pos hw]
 obtain ⟨i0, hi0, hz0, hz1, hz2⟩ := info_parts info_ins
 refine wp_append_lies _ s x 28 ho base 34 i0 (.agg #[.int .i64 0, .int .i64 0, .int .i64 0, .int .i64 0, .slice none 0 0]) 5 56 Tryz.underlying28 hi0 hz0 hz1 hz2 rfl (by decide) cv k xs hs (hown.out.alloc _) ⟨W.heap.size, 0, none⟩ 1 1 [.int .i64 p, .int .i64 d, .int .i64 q, .int .i64 b, .slice ol ll cl] hx rfl (new_cells W _ _) (by intro u hu; simp only [List.mem_cons, List.not_mem_nil, or_false] at hu; rcases hu with rfl | rfl | rfl | rfl | rfl <;> rfl) (by decide) (by unfold maxLen; omega) (by omega) (by show base ≤ (W.alloc _).heap.size; simp; omega) (W.heap.size + 1) (by show (W.alloc _).heap.size = _; simp) ?_
 intro g cap w' h1 h2 h3 _
 have h2' : (W.alloc (.cells #[.int .i64 p, .int .i64 d, .int .i64 q, .int .i64 b, .slice ol ll cl] 34)).grownBy w' cv.ownBlock := grown_drew h2
 have hbx : BoxL w' mb 119 (cv :: rs) := (app_turn h2').box hm.out (fun e => row_box_ne hown.out e hm.out (by decide) rfl)
 exact h g cap w' (Lib.hid h1) (Lib.hid h2') (Lib.hid h3) (Lib.hid hbx) (hbx.cell 0 rfl) (hbx.free 0) hbx.lt
theorem zput_end {W W2 w5 : World} {B base mb g cap : Nat} {K : KV} {X : Nat → Prop} {s : MSt} {O : Obj} {x : Ins} {sl : Value} {xs : List Value} (h : ZkIn W B base mb K X s) (hb : Below W.heap.size W W2) (hrow : W.ownsRow base 34 5 K.c s.code.length xs) (hcell : CellsG 5 (InsM W (fun b => SZ mb K b ∨ X b)) s.code xs) (hop : I64 x.op) (hd : I64 x.d) (ha : I64 x.a) (hbb : I64 x.b) (hl : IntsM W (fun b => SZ mb K b ∨ X b) x.l sl)
  (hg : (W2.alloc O).grownBy w5 K.c.ownBlock) (he : K.c.ownBlock = some g ∨ g = W2.heap.size + 1) (ho : w5.ownsRow base 34 5 (.slice (some ⟨g, 0, none⟩) (s.code.length + 1) cap) (s.code.length + 1) (xs ++ [.int .i64 x.op, .int .i64 x.d, .int .i64 x.a, .int .i64 x.b, sl])) :
  ZkGo B base mb K ⟨.slice (some ⟨g, 0, none⟩) (s.code.length + 1) cap, K.v, K.a⟩ X (s.put x) W (w5.setCell ⟨mb, 0, none⟩ (.slice (some ⟨g, 0, none⟩) (s.code.length + 1) cap)) := by
 have hz := hb.size
 have T1 : Turned (fun b => K.c.ownBlock = some b) W w5 := (Turned.of_below hb).next (app_turn hg)
 have b5 := T1.box h.st.box (fun e => row_box_ne hrow e h.st.box (by decide) rfl)
 have T2 : Turned (fun b => b = mb) w5 (w5.setCell ⟨mb, 0, none⟩ (.slice (some ⟨g, 0, none⟩) (s.code.length + 1) cap)) := Turned.set _ _ _ rfl
 have T : Turned (fun b => b = mb ∨ K.c.ownBlock = some b) W (w5.setCell ⟨mb, 0, none⟩ (.slice (some ⟨g, 0, none⟩) (s.code.length + 1) cap)) := (T1.wider fun b _ h => .inr h).next (T2.wider fun b _ h => .inl h)
 have hTZ : Turned (SZ mb K) W (w5.setCell ⟨mb, 0, none⟩ (.slice (some ⟨g, 0, none⟩) (s.code.length + 1) cap)) := T.wider fun b _ h => h.imp id .inl
 have hless : ∀ b, b < W.heap.size → SZ mb ⟨.slice (some ⟨g, 0, none⟩) (s.code.length + 1) cap, K.v, K.a⟩ b → SZ mb K b := fun b hlt hs => by
  rcases hs with hs | hs | hs
  ·exact .inl hs
  ·have e : g = b := by simpa [Value.ownBlock] using hs
   subst e
   rcases he with h2 | h2
   ·exact .inr (.inl h2)
   ·omega
  ·exact .inr (.inr hs)
 have hX : ∀ b, b < W.heap.size → (SZ mb ⟨.slice (some ⟨g, 0, none⟩) (s.code.length + 1) cap, K.v, K.a⟩ b ∨ X b) → (SZ mb K b ∨ X b) := fun b hb h => h.imp (hless b hb) id
 have hnot : ∀ {v : Value} {n : Nat} {ys : List Value}, W.ownsRow base 3 1 v n ys → ∀ b, v.ownBlock = some b → ¬ (b = mb ∨ K.c.ownBlock = some b) := fun hv b hb hs => by
  rcases hs with hs | hs
  ·exact row_box_ne hv hb h.st.box (by decide) hs
  ·exact row_row_ne hv hb hrow hs (by decide) rfl
 refine ⟨⟨⟨b5.set 0 _, ⟨xs ++ [.int .i64 x.op, .int .i64 x.d, .int .i64 x.a, .int .i64 x.b, sl], ?_, ?_⟩, row_turn h.st.vars T (hnot h.st.vars), row_turn h.st.regs T (hnot h.st.regs), h.st.ne, h.st.i64⟩, h.b1, h.b2, Nat.le_trans h.b4 T.size, fun b hb => Nat.lt_of_lt_of_le (h.bx b hb) T.size⟩, hTZ, hless, hTZ.below h.low h.size⟩
 ·rw [show (s.put x).code.length = s.code.length + 1 by simp [MSt.put]]
  exact row_turn ho T2 (fun b hb e => row_box_ne ho hb b5 (by decide) e)
 ·exact CellsG.snoc (x := x) (cs := [.int .i64 x.op, .int .i64 x.d, .int .i64 x.a, .int .i64 x.b, sl]) rfl ⟨sl, rfl, hop, hd, ha, hbb, hl.kept hTZ (fun _ _ h => .inl h) hX⟩ (hcell.mono fun y _ cs hy => hy.kept hTZ (fun _ _ h => .inl h) hX)
theorem zput_any {B base mb : Nat} {K : KV} {X : Nat → Prop} {s : MSt} (p d q b : Int) (l : List Int) (ol : Option Addr) (ll cl : Nat) (W : World) (h : ZkIn W B base mb K X s) (hk : s.code.length ≤ 1000000) (hop : I64 p) (hd : I64 d) (ha : I64 q) (hb : I64 b) (hl : IntsM W (fun b => SZ mb K b ∨ X b) l (.slice ol ll cl)) :
  Calls Tryz.prog 121 #[.pointer (some ⟨mb, 0, none⟩), .agg #[.int .i64 p, .int .i64 d, .int .i64 q, .int .i64 b, .slice ol ll cl]] W fun e w' => e = .returned (.tuple #[]) ∧ ∃ K', ZkGo B base mb K K' X (s.put ⟨p, d, q, b, l⟩) W w' := by
 obtain ⟨xs, hrow, hcell⟩ := h.st.row
 obtain ⟨oc, cc, hkc⟩ := own_form hrow
 obtain ⟨W2, hW2⟩ : ∃ W2, W.alloc (.cells #[.int .i64 p, .int .i64 d, .int .i64 q, .int .i64 b, .slice ol ll cl] 34) = W2 := ⟨_, rfl⟩
 have HWE := Lib.hid hW2
 have HB2 := Lib.hid (show Below W.heap.size W W2 from by rw [← hW2]; exact Below.one W _)
 have BI := Lib.hid (show BoxL W2 W.heap.size 34 [.int .i64 p, .int .i64 d, .int .i64 q, .int .i64 b, .slice ol ll cl] from by rw [← hW2]; exact BoxL.new rfl _ _)
 have HM := Lib.hid (h.st.box.keep HB2.out)
 have HO := Lib.hid (ownsRow_keep hrow HB2.out)
 have hbs : base ≤ W2.heap.size := Nat.le_trans h.b4 HB2.out.size
 have HEND := Lib.hid (fun (g cap : Nat) (w5 : World) hg he ho => zput_end (x := ⟨p, d, q, b, l⟩) (g := g) (cap := cap) (w5 := w5) (O := .cells #[.int .i64 p, .int .i64 d, .int .i64 q, .int .i64 b, .slice ol ll cl] 34) h HB2.out hrow hcell hop hd ha hb hl hg he ho)
 obtain ⟨KC, KV, KA⟩ := K
 dsimp only at hkc HM HO HEND
 subst hkc
 clear h hW2 hrow hcell hl
 go_enter Tryz.func121, Tryz.ntmps121
 go_upto_region 1 with fail
 rw [HWE.out]
 have i0 := BI.out.cell 0 rfl
 have i1 := BI.out.cell 1 rfl
 have i2 := BI.out.cell 2 rfl
 have i3 := BI.out.cell 3 rfl
 have i4 := BI.out.cell 4 rfl
 have hil := BI.out.lt
 have x0 := HM.out.cell 0 rfl
 have hxl := HM.out.lt
 go_region_law (refine step_append_put rfl (.tmp 8) (.tmp 10) rfl base s.code.length mb _ xs _ p d q b ol ll cl rfl HO HM rfl hk hbs ?_; intro g cap w5 HO5 HG5 HE5 HM5 z0 z1 z2)
 all_goals
  have HE := Lib.hid (HEND.out g cap w5 HG5.out HE5.out HO5.out)
  go_wp2_with fail
  go_end0
  exact ⟨rfl, _, HE.out⟩
end
section
open Go Go.RowKit Mk
theorem snoc_of {α : Type} : ∀ {t : List α} {n : Nat}, t.length = n + 1 → ∃ l x, t = l ++ [x] ∧ l.length = n
 | t, n, h => by
  have hne : t ≠ [] := fun e => by rw [e] at h; simp at h
  refine ⟨t.dropLast, t.getLast hne, (List.dropLast_concat_getLast hne).symm, by rw [List.length_dropLast]; omega⟩
theorem into_3 (lk : List (Int × Int) → Int → Int) (n : Int) (v : List Int) (t : List Trm) (d : Int) (e : Bool) (s : MSt) : Mk.into lk (.mk 3 n v t) d e s = Mk.choice lk t d e s := by rw [Mk.into]; simp
theorem into_6 (lk : List (Int × Int) → Int → Int) (n : Int) (v : List Int) (l : List Trm) (x : Trm) (d : Int) (e : Bool) (s : MSt) : Mk.into lk (.mk 6 n v (l ++ [x])) d e s = Mk.into lk x d e (Mk.allT lk l s).2 := by
 rw [Mk.into, if_neg (by decide), if_pos rfl, Mk.seqs_eq]
theorem into_8 (lk : List (Int × Int) → Int → Int) (n : Int) (v : List Int) (l : List Trm) (x : Trm) (d : Int) (e : Bool) (s : MSt) : Mk.into lk (.mk 8 n v (l ++ [x])) d e s = Mk.into lk x d e ((Mk.allT lk l s).2.bind v (Mk.allT lk l s).1) := by
 rw [Mk.into, if_neg (by decide), if_neg (by decide), if_pos rfl, Mk.lets_eq, List.nil_append]
theorem into_9 (lk : List (Int × Int) → Int → Int) (n : Int) (v : List Int) (l : List Trm) (x : Trm) (d : Int) (e : Bool) (s : MSt) (h : l.length = v.length) : Mk.into lk (.mk 9 n v (l ++ [x])) d e s = Mk.into lk x d e (Mk.fill lk v (l ++ [x]) (Mk.fix1 v (l ++ [x]) s)) := by
 rw [Mk.into, if_neg (by decide), if_neg (by decide), if_neg (by decide), if_pos rfl, Mk.fixs_eq _ _ _ _ _ _ _ h]
 congr 1
 rw [← Mk.fill_take lk v (l ++ [x]), ← h, List.take_left]
theorem into_f (lk : List (Int × Int) → Int → Int) (op n : Int) (v : List Int) (t : List Trm) (d : Int) (s : MSt) (h3 : op ≠ 3) (h6 : op ≠ 6) (h8 : op ≠ 8) (h9 : op ≠ 9) (h1 : op ≠ 1) : Mk.into lk (.mk op n v t) d false s = Mk.strict op n d (Mk.allT lk t s).1 (Mk.allT lk t s).2 := by
 rw [Mk.into, if_neg h3, if_neg h6, if_neg h8, if_neg h9, if_neg (by decide), if_neg h1]
theorem into_f1 (lk : List (Int × Int) → Int → Int) (n : Int) (v : List Int) (t : List Trm) (d : Int) (s : MSt) : Mk.into lk (.mk 1 n v t) d false s = s.put ⟨1, d, lk s.vars n, 0, []⟩ := by
 rw [Mk.into, if_neg (by decide), if_neg (by decide), if_neg (by decide), if_neg (by decide), if_neg (by decide), if_pos rfl]
theorem into_t (lk : List (Int × Int) → Int → Int) (op n : Int) (v : List Int) (t : List Trm) (d : Int) (s : MSt) (h3 : op ≠ 3) (h6 : op ≠ 6) (h8 : op ≠ 8) (h9 : op ≠ 9) (he : Mk.endsB op n = true) : Mk.into lk (.mk op n v t) d true s = Mk.ended op n (Mk.allT lk t s).1 (Mk.allT lk t s).2 := by
 rw [Mk.into, if_neg h3, if_neg h6, if_neg h8, if_neg h9, if_pos rfl, if_pos he]
theorem into_th (lk : List (Int × Int) → Int → Int) (op n : Int) (v : List Int) (t : List Trm) (d : Int) (s : MSt) (h3 : op ≠ 3) (h6 : op ≠ 6) (h8 : op ≠ 8) (h9 : op ≠ 9) (he : Mk.endsB op n = false) : Mk.into lk (.mk op n v t) d true s = (Mk.had lk (.mk op n v t) s).2.put ⟨22, 0, (Mk.had lk (.mk op n v t) s).1, 0, []⟩ := by
 rw [Mk.into, if_neg h3, if_neg h6, if_neg h8, if_neg h9, if_pos rfl, if_neg (by rw [he]; decide)]
 by_cases h1 : op = 1
 ·subst h1
  rw [if_pos rfl]
  simp [Mk.had, Mk.hadW, Trm.op, Trm.n]
 ·rw [if_neg h1, show Mk.had lk (.mk op n v t) s = (s.regs, Mk.into lk (.mk op n v t) s.regs false s.fresh) from if_neg h1, into_f lk op n v t s.regs s.fresh h3 h6 h8 h9 h1]
end
section
open Go Go.RowKit Mk
def ZIntoC (e : Bool) (x : Trm) : Prop := ∀ (c0 c1 c2 c3 : Value) (B base mb : Nat) (K : KV) (X : Nat → Prop) (s : MSt) (d : Int) (nc nk : Int) (fr : Bool) (sc : Int → Bool) (W : World), TrmR W B x [c0, c1, c2, c3] → ZkIn W B base mb K X s → Trm.wf nc nk fr x sc = true → Room s (6 * x.all - 2) → 0 ≤ d ∧ d ≤ 1900000 →
 Calls Tryz.prog 76 #[.pointer (some ⟨mb, 0, none⟩), .agg #[c0, c1, c2, c3], .int .i64 d, .bool e] W fun r w' => r = .returned (.tuple #[]) ∧ ∃ K', ZkGo B base mb K K' X (Mk.into Mk.lkF x d e s) W w'
def ZHadC (x : Trm) : Prop := ∀ (c0 c1 c2 c3 : Value) (B base mb : Nat) (K : KV) (X : Nat → Prop) (s : MSt) (nc nk : Int) (fr : Bool) (sc : Int → Bool) (W : World), TrmR W B x [c0, c1, c2, c3] → ZkIn W B base mb K X s → Trm.wf nc nk fr x sc = true → Room s (6 * x.all - 1) →
 Calls Tryz.prog 118 #[.pointer (some ⟨mb, 0, none⟩), .agg #[c0, c1, c2, c3]] W fun r w' => r = .returned (.int .i64 (Mk.had Mk.lkF x s).1) ∧ ∃ K', ZkGo B base mb K K' X (Mk.had Mk.lkF x s).2 W w'
def ZAllC (l : List Trm) : Prop := ∀ (sl : Value) (B base mb : Nat) (K : KV) (X : Nat → Prop) (s : MSt) (nc nk : Int) (fr : Bool) (sc : Int → Bool) (W : World), TrmS W B l sl → ZkIn W B base mb K X s → (∀ x ∈ l, Trm.wf nc nk fr x sc = true) → Room s (6 * Trm.allL l) →
 Calls Tryz.prog 123 #[.pointer (some ⟨mb, 0, none⟩), sl] W fun r w' => ∃ rv, r = .returned rv ∧ ∃ K', ZkGo B base mb K K' X (Mk.allT Mk.lkF l s).2 W w' ∧ IntsM w' (fun b => SZ mb K' b ∨ X b) (Mk.allT Mk.lkF l s).1 rv
theorem zhad_any (x : Trm) (hx : ZIntoC false x) : ZHadC x := by
 intro c0 c1 c2 c3 B base mb K X s nc nk fr sc W hv hm hw hroom
 have hroom2 := Room.mono hroom (k' := 1) (by have := x.all_pos; omega)
 obtain ⟨W1, hW1⟩ : ∃ W1, W.alloc (.cells #[c0, c1, c2, c3] 41) = W1 := ⟨_, rfl⟩
 have HB1 := Lib.hid (show Below W.heap.size W W1 from by rw [← hW1]; exact Below.one W _)
 have HBX := Lib.hid (show BoxL W1 W.heap.size 41 [c0, c1, c2, c3] from by rw [← hW1]; exact BoxL.new rfl _ _)
 have HM := Lib.hid (hm.keep HB1.out)
 have hsz := hm.size
 have HV := Lib.hid (TrmR.kept (HB1.out.mono hm.size) _ _ hv)
 have HW := Lib.hid hW1
 have HX := Lib.hid hx
 have HLT := Lib.hid hm.st.lt
 obtain ⟨op, n, v, t⟩ := x
 obtain ⟨ov, lv, cvv, ot, lt, ct, rfl, rfl, rfl, rfl, hn⟩ := TrmR.shape hv
 dsimp only [Trm.op, Trm.n] at *
 have x0 := HBX.out.cell 0 rfl
 have x1 := HBX.out.cell 1 rfl
 have x2 := HBX.out.cell 2 rfl
 have x3 := HBX.out.cell 3 rfl
 have xl := HBX.out.lt
 by_cases h1 : op = 1
 ·subst h1
  have hpost : (Mk.had Mk.lkF (.mk 1 n v t) s) = (Mk.lkF s.vars n, s) := by simp [Mk.had, Mk.hadW, Trm.op, Trm.n]
  rw [hpost]
  have HRG := Lib.hid (zregister_any n W1 HM.out _ rfl)
  clear hv hm hx hW1 hw hroom hpost
  go_enter Tryz.func118, Tryz.ntmps118
  go_upto_region 2 with fail
  rw [HW.out]
  go_wp2_with fail
  with_reducible refine HRG.out.mono ?_
  rintro e w2 ⟨rfl, hb2⟩
  have HB2 := Lib.hid hb2
  clear hb2 x0 x1 x2 x3 xl
  go_wp2_with fail
  go_ret
  exact ⟨rfl, K, ((ZkGo.refl HM.out).after HB2.out).before HB1.out hsz⟩
 ·have f1 : (op == 1) = false := by simpa using h1
  have hpost : (Mk.had Mk.lkF (.mk op n v t) s) = (s.regs, Mk.into Mk.lkF (.mk op n v t) s.regs false s.fresh) := if_neg h1
  rw [hpost]
  have HF := Lib.hid (zfresh_any W1 HM.out hroom2)
  have hro := Lib.hid hroom
  have hall := (Trm.mk op n v t).all_pos
  have hwf := Lib.hid hw
  clear hv hm hx hW1 hw hroom hpost
  go_enter Tryz.func118, Tryz.ntmps118
  go_upto_region 3 with fail
  rw [HW.out]
  go_wp2_with fail
  refine HF.out.mono ?_
  rintro e w2 ⟨rfl, hg⟩
  have HG := Lib.hid hg
  have HBX2 := Lib.hid (HG.out.turned.box HBX.out (fun hs => Nat.lt_irrefl _ (HLT.out _ hs)))
  have HI := Lib.hid (HX.out _ _ _ _ B base mb K X s.fresh s.regs nc nk fr sc w2 (TrmR.kept HG.out.low _ _ HV.out) HG.out.inn hwf.out (Room.fresh (hro.out.mono (by omega))) ⟨hro.out.2.1, by have := hro.out.2.2.1; omega⟩)
  clear x0 x1 x2 x3 xl hg
  have x0 := HBX2.out.cell 0 rfl
  have x1 := HBX2.out.cell 1 rfl
  have x2 := HBX2.out.cell 2 rfl
  have x3 := HBX2.out.cell 3 rfl
  have xl := HBX2.out.lt
  go_wp2_with fail
  refine HI.out.mono ?_
  rintro e w3 ⟨rfl, K', hg⟩
  have HG3 := Lib.hid ((HG.out.next hg).before HB1.out hsz)
  clear hg x0 x1 x2 x3 xl
  go_wp2_with fail
  go_ret
  exact ⟨rfl, _, HG3.out⟩
theorem zall_any (l : List Trm) (hl : ∀ x ∈ l, ZHadC x) : ZAllC l := by
 intro sl B base mb K X s nc nk fr sc W hv hm hw hroom
 obtain ⟨o, len, cap, rfl⟩ := SlC.form hv
 obtain ⟨hlen, hcap, hmax⟩ := SlC.lens hv
 have HV := Lib.hid hv
 have HL := Lib.hid hlen
 have HM := Lib.hid hm
 have HH := Lib.hid hl
 have HWF := Lib.hid hw
 have HRO := Lib.hid hroom
 have hshort : l.length ≤ 300000 := by have := Trm.allL_length l; have := hroom.1; omega
 have hsz := hm.size
 have HB := Lib.hid (fun (j : Nat) => show ∀ x ∈ (Mk.allT Mk.lkF (l.take j) s).1, I64 x from fun x hx => by
  have h1 := (Room.allT (k := 0) Mk.lkF_ok (l.take j) s (hroom.mono (by have := allLT_take l j; omega))).2 x hx
  exact ⟨by omega, by omega⟩)
 clear hv hlen hm hl hw hroom
 go_enter Tryz.func123, Tryz.ntmps123
 go_wp2_with fail
 go_loopg [6, 5] len (fun g i ov wr => ∃ (j : Nat) (K' : KV), g = len - j ∧ i = .int .i64 j ∧ j ≤ len ∧ Hid (ZkGo B base mb K K' (fun b => X b ∨ ov.ownBlock = some b) (Mk.allT Mk.lkF (l.take j) s).2 W wr) ∧ Hid (wr.ownsRow W.heap.size 3 1 ov (Mk.allT Mk.lkF (l.take j) s).1.length ((Mk.allT Mk.lkF (l.take j) s).1.map (Value.int .i64))) ∧ Hid (∀ b, ov.ownBlock = some b → ¬ SZ mb K' b))
 case atStart => exact ⟨0, K, rfl, rfl, by omega, Lib.hid (by simpa [Mk.allT] using ZkGo.refl (HM.out.turn (X' := fun b => X b ∨ (Value.slice none 0 0).ownBlock = some b) (fun b _ h => h.elim id (fun h => by simp [Value.ownBlock] at h)) (fun b h => h.elim (HM.out.bx b) (fun h => by simp [Value.ownBlock] at h)))), Lib.hid (by simpa [Mk.allT] using World.ownsRow_nil _ _ _ _), Lib.hid (fun b h => by simp [Value.ownBlock] at h)⟩
 case round =>
  obtain ⟨j, K', rfl, rfl, hj, HG, HO, HAP⟩ := hrel
  by_cases hjl : j < len
  ·obtain ⟨x, hx⟩ : ∃ x, l[j]? = some x := ⟨_, List.getElem?_eq_getElem (by rw [← HL.out]; exact hjl)⟩
   obtain ⟨b, off, cs, ho, _, hcl, hcell, hr⟩ := SlC.at HV.out HG.out.low hx
   subst ho
   match cs, hcl with
   | [c0, c1, c2, c3], _ =>
    have e0 := hcell 0 _ rfl
    have e1 := hcell 1 _ rfl
    have e2 := hcell 2 _ rfl
    have e3 := hcell 3 _ rfl
    simp only [Nat.add_zero] at e0
    have hbl := cell_lt e0
    obtain ⟨qa, qb, qc, qd, qe, qf, rfl, rfl, rfl, rfl, _⟩ := TrmR.shape hr
    have hrm := Room.allT (k := 6 * x.all) Mk.lkF_ok (l.take j) s (HRO.out.mono (by have := allL_snoc hx; have := allLT_take l (j + 1); omega))
    have HC := Lib.hid (HH.out x (List.mem_of_getElem? hx) _ _ _ _ B base mb K' _ (Mk.allT Mk.lkF (l.take j) s).2 nc nk fr sc wr (TrmR.kept HG.out.low _ _ hr) HG.out.inn (HWF.out x (List.mem_of_getElem? hx)) (hrm.1.mono (by omega)))
    have HTK := Lib.hid (allT_snoc Mk.lkF hx s)
    have hjb := Lib.hid (HB.out (j + 1))
    obtain ⟨q, hq⟩ : ∃ q, Mk.had Mk.lkF x (Mk.allT Mk.lkF (l.take j) s).2 = q := ⟨_, rfl⟩
    have HLEN := Lib.hid (show (Mk.allT Mk.lkF (l.take j) s).1.length = j from by rw [allT_length, List.length_take]; have := HL.out; omega)
    rw [hq] at HC HTK
    clear hr hrm hx hq hcell
    go_wp2_with fail
    refine HC.out.mono ?_
    rintro e w2 ⟨rfl, K2, hg2⟩
    have HG2 := Lib.hid (HG.out.next hg2)
    have hq64 : I64 q.1 := hjb.out _ (by rw [HTK.out]; simp)
    have HQ := Lib.hid hq64
    have HO2 := Lib.hid (row_same HO.out (fun c hc => hg2.turned.block c (ownBlock_lt HO.out hc) (HAP.out c hc)))
    have HAP2 := Lib.hid (show ∀ b, u5.ownBlock = some b → ¬ SZ mb K2 b from fun b h hs => HAP.out b h (hg2.less b (ownBlock_lt HO.out h) hs))
    have hw2 : W.heap.size ≤ w2.heap.size := HG2.out.turned.size
    have hlen2 : (Mk.allT Mk.lkF (l.take j) s).1.length ≤ 300000 := by have := HLEN.out; have := HL.out; omega
    obtain ⟨i0, hi0, hz0, hz1, hz2⟩ := info_parts info_int
    clear hg2 hq64 e0 e1 e2 e3 hbl
    go_wp2_with (at_builtin; refine wpList_append_lies _ rfl (.tmp 13) (.tmp 20) 32 rfl W.heap.size 3 i0 (.int .i64 0) 1 8 Tryz.underlying32 hi0 hz0 hz1 hz2 rfl (by decide) u5 (Mk.allT Mk.lkF (l.take j) s).1.length _ rfl (HO2.out.alloc _) ⟨w2.heap.size, 0, none⟩ 1 1 [.int .i64 q.1] rfl rfl (new_cells w2 _ _) (by intro u hu; simp only [List.mem_cons, List.not_mem_nil, or_false] at hu; subst hu; rfl) (by decide) (by unfold maxLen; omega) (by omega) (by simp; omega) (w2.heap.size + 1) (by simp) ?_)
    intro g cap w3 hown hgrow hlie hglt
    have HT3 : Turned (fun b => u5.ownBlock = some b) w2 w3 := (Turned.of_below (Below.one w2 _)).next (Turned.grown hgrow (fun b h => h))
    have HTT : Turned (SZ mb K) W w3 := HG2.out.turned.trans HT3 (fun b hb h => by have := ownBlock_base HO2.out h; omega)
    have hgS : ¬ SZ mb K2 g := fun hs => by
     rcases hlie with h | h
     ·exact HAP2.out g h hs
     ·have := HG2.out.inn.st.lt g hs
      omega
    have HAP3 := Lib.hid (show ∀ b, (Value.slice (some ⟨g, 0, none⟩) ((Mk.allT Mk.lkF (l.take j) s).1.length + 1) cap).ownBlock = some b → ¬ SZ mb K2 b from fun b h => by
     have e : g = b := by simpa [Value.ownBlock] using h
     subst e
     exact hgS)
    have HGN := Lib.hid (show ZkGo B base mb K K2 (fun b => X b ∨ (Value.slice (some ⟨g, 0, none⟩) ((Mk.allT Mk.lkF (l.take j) s).1.length + 1) cap).ownBlock = some b) (Mk.allT Mk.lkF (l.take (j + 1)) s).2 W w3 from by
     rw [HTK.out]
     refine ⟨⟨HG2.out.inn.st.keep HT3 (fun b _ h => ⟨.inr h, HAP2.out b h⟩) (fun b hb h => ?_), HG2.out.inn.b1, HG2.out.inn.b2, Nat.le_trans HG2.out.inn.b4 HT3.size, fun b h => ?_⟩, HTT, HG2.out.less, HTT.below HM.out.low hsz⟩
     ·refine h.imp id fun e => ?_
      have e : g = b := by simpa [Value.ownBlock] using e
      subst e
      rcases hlie with h | h
      ·exact h
      ·omega
     ·rcases h with h | h
      ·exact Nat.lt_of_lt_of_le (HG2.out.inn.bx b (.inl h)) HT3.size
      ·have e : g = b := by simpa [Value.ownBlock] using h
       subst e
       exact hglt)
    have HON := Lib.hid (show w3.ownsRow W.heap.size 3 1 (.slice (some ⟨g, 0, none⟩) ((Mk.allT Mk.lkF (l.take j) s).1.length + 1) cap) (Mk.allT Mk.lkF (l.take (j + 1)) s).1.length ((Mk.allT Mk.lkF (l.take (j + 1)) s).1.map (Value.int .i64)) from by
     rw [HTK.out]
     simpa using hown)
    clear hown hgrow hlie hglt HT3 HTT hgS
    go_wp2_with fail
    go_roundg (len - (j + 1))
    case measure => omega
    case rel => exact ⟨j + 1, K2, rfl, by go_num, by omega, HGN, HON, HAP3⟩
  ·obtain rfl : j = len := by omega
   have HE := Lib.hid (show l.take j = l from List.take_of_length_le (by rw [← HL.out]; exact Nat.le_refl _))
   have hg := HG.out
   have ho := HO.out
   have hb := HB.out j
   rw [HE.out] at hg ho hb
   have HG2 := Lib.hid (show ZkGo B base mb K K' X (Mk.allT Mk.lkF l s).2 W wr from ⟨hg.inn.turn (fun b _ h => .inl h) (fun b h => hg.inn.bx b (.inl h)), hg.turned, hg.less, hg.low⟩)
   have HIN := Lib.hid (show IntsM wr (fun b => SZ mb K' b ∨ X b) (Mk.allT Mk.lkF l s).1 u5 from IntsM.of_row ho hb (fun b h hs => by
    rcases hs with hs | hs
    ·exact HAP.out b h hs
    ·have := HM.out.bx b hs
     have := ownBlock_base ho h
     omega))
   clear hg ho hb HG HO
   go_wp2_with fail
   go_ret
   exact ⟨_, rfl, K', HG2.out, HIN.out⟩
end
end Go.Proofs.YtigkhmppnnljiaaGreatDoor

/-
  What the proofs lean on: MkJ, Zp, MkNM.
-/
import Derived.Test.YtigkhmppnnljiaaGreatDoorPreA04
import Derived.Test.YtigkhmppnnljiaaGreatDoorPreA22
import Derived.Test.YtigkhmppnnljiaaGreatDoorPreA23
import Derived.Test.YtigkhmppnnljiaaGreatDoorPreA30
import Derived.Test.YtigkhmppnnljiaaGreatDoorPreA31
set_option maxRecDepth 100000
set_option maxHeartbeats 16000000
namespace Go.Proofs.YtigkhmppnnljiaaGreatDoor
section
open Go Go.RowKit Mk
theorem snoc_of {α : Type} : ∀ {t : List α} {n : Nat}, t.length = n + 1 → ∃ l x, t = l ++ [x] ∧ l.length = n
 | t, n, h => by
  have hne : t ≠ [] := fun e => by rw [e] at h; simp at h
  refine ⟨t.dropLast, t.getLast hne, (List.dropLast_concat_getLast hne).symm, by rw [List.length_dropLast]; omega⟩
theorem into_3 (lk : List (Int × Int) → Int → Int) (n : Int) (v : List Int) (t : List Trm) (d : Int) (e : Bool) (s : MSt) : Mk.into lk (.mk 3 n v t) d e s = Mk.choice lk t d e s := by rw [Mk.into]; simp
theorem into_6 (lk : List (Int × Int) → Int → Int) (n : Int) (v : List Int) (l : List Trm) (x : Trm) (d : Int) (e : Bool) (s : MSt) : Mk.into lk (.mk 6 n v (l ++ [x])) d e s = Mk.into lk x d e (Mk.allT lk l s).2 := by
 rw [Mk.into, if_neg (by decide), if_pos rfl, Mk.seqs_eq]
theorem into_8 (lk : List (Int × Int) → Int → Int) (n : Int) (v : List Int) (l : List Trm) (x : Trm) (d : Int) (e : Bool) (s : MSt) : Mk.into lk (.mk 8 n v (l ++ [x])) d e s = Mk.into lk x d e ((Mk.allT lk l s).2.bind v (Mk.allT lk l s).1) := by
 rw [Mk.into, if_neg (by decide), if_neg (by decide), if_pos rfl, Mk.lets_eq, List.nil_append]
theorem into_9 (lk : List (Int × Int) → Int → Int) (n : Int) (v : List Int) (l : List Trm) (x : Trm) (d : Int) (e : Bool) (s : MSt) (h : l.length = v.length) : Mk.into lk (.mk 9 n v (l ++ [x])) d e s = Mk.into lk x d e (Mk.fill lk v (l ++ [x]) (Mk.fix1 v (l ++ [x]) s)) := by
 rw [Mk.into, if_neg (by decide), if_neg (by decide), if_neg (by decide), if_pos rfl, Mk.fixs_eq _ _ _ _ _ _ _ h]
 congr 1
 rw [← Mk.fill_take lk v (l ++ [x]), ← h, List.take_left]
theorem into_f (lk : List (Int × Int) → Int → Int) (op n : Int) (v : List Int) (t : List Trm) (d : Int) (s : MSt) (h3 : op ≠ 3) (h6 : op ≠ 6) (h8 : op ≠ 8) (h9 : op ≠ 9) (h1 : op ≠ 1) : Mk.into lk (.mk op n v t) d false s = Mk.strict op n d (Mk.allT lk t s).1 (Mk.allT lk t s).2 := by
 rw [Mk.into, if_neg h3, if_neg h6, if_neg h8, if_neg h9, if_neg (by decide), if_neg h1]
theorem into_f1 (lk : List (Int × Int) → Int → Int) (n : Int) (v : List Int) (t : List Trm) (d : Int) (s : MSt) : Mk.into lk (.mk 1 n v t) d false s = s.put ⟨1, d, lk s.vars n, 0, []⟩ := by
 rw [Mk.into, if_neg (by decide), if_neg (by decide), if_neg (by decide), if_neg (by decide), if_neg (by decide), if_pos rfl]
theorem into_t (lk : List (Int × Int) → Int → Int) (op n : Int) (v : List Int) (t : List Trm) (d : Int) (s : MSt) (h3 : op ≠ 3) (h6 : op ≠ 6) (h8 : op ≠ 8) (h9 : op ≠ 9) (he : Mk.endsB op n = true) : Mk.into lk (.mk op n v t) d true s = Mk.ended op n (Mk.allT lk t s).1 (Mk.allT lk t s).2 := by
 rw [Mk.into, if_neg h3, if_neg h6, if_neg h8, if_neg h9, if_pos rfl, if_pos he]
theorem into_th (lk : List (Int × Int) → Int → Int) (op n : Int) (v : List Int) (t : List Trm) (d : Int) (s : MSt) (h3 : op ≠ 3) (h6 : op ≠ 6) (h8 : op ≠ 8) (h9 : op ≠ 9) (he : Mk.endsB op n = false) : Mk.into lk (.mk op n v t) d true s = (Mk.had lk (.mk op n v t) s).2.put ⟨22, 0, (Mk.had lk (.mk op n v t) s).1, 0, []⟩ := by
 rw [Mk.into, if_neg h3, if_neg h6, if_neg h8, if_neg h9, if_pos rfl, if_neg (by rw [he]; decide)]
 by_cases h1 : op = 1
 ·subst h1
  rw [if_pos rfl]
  simp [Mk.had, Mk.hadW, Trm.op, Trm.n]
 ·rw [if_neg h1, show Mk.had lk (.mk op n v t) s = (s.regs, Mk.into lk (.mk op n v t) s.regs false s.fresh) from if_neg h1, into_f lk op n v t s.regs s.fresh h3 h6 h8 h9 h1]
end
section
open Go Go.RowKit Mk
theorem step_append_put {W : World} {ops : Array Oper} {o : Oper} {a : Act} {K : Act → World → Prop} {Q : Exit → Act → World → Prop} {E : Prop} (hgd : o.guard = none) (s x : Operand)
  (ho : o.op = .call { callee := .builtin .append, args := #[s, x], argTypes := #[28, 28] }) (base k mb : Nat) (cv : Value) (xs rs : List Value) (p d q b : Int) (ol : Option Addr) (ll cl : Nat) (hs : a.eval s = cv)
  (hown : Hid (W.ownsRow base 34 5 cv k xs)) (hm : Hid (BoxL W mb 119 (cv :: rs))) (hx : a.eval x = .slice (some ⟨W.heap.size, 0, none⟩) 1 1) (hk : k ≤ 1000000) (hb : base ≤ W.heap.size)
  (h : ∀ g cap w', Hid (w'.ownsRow base 34 5 (.slice (some ⟨g, 0, none⟩) (k + 1) cap) (k + 1) (xs ++ [.int .i64 p, .int .i64 d, .int .i64 q, .int .i64 b, .slice ol ll cl])) → Hid ((W.alloc (.cells #[.int .i64 p, .int .i64 d, .int .i64 q, .int .i64 b, .slice ol ll cl] 34)).grownBy w' cv.ownBlock) → Hid (cv.ownBlock = some g ∨ g = W.heap.size + 1) →
   Hid (BoxL w' mb 119 (cv :: rs)) → w'.cell? ⟨mb, 0, none⟩ = some cv → w'.frozen? ⟨mb, 0, none⟩ = false → mb < w'.heap.size → K (a.put o.dst (.slice (some ⟨g, 0, none⟩) (k + 1) cap)) w') :
  if Region.wanted o (yielded ops a.tmps) = true then Oper.wp Tryz.prog o a (W.alloc (.cells #[.int .i64 p, .int .i64 d, .int .i64 q, .int .i64 b, .slice ol ll cl] 34)).drew K Q else E := by
 have hw : Region.wanted o (yielded ops a.tmps) = true := by simp [Region.wanted, hgd]
 rw [if_pos hw]
 obtain ⟨i0, hi0, hz0, hz1, hz2⟩ := info_parts info_ins
 refine wp_append_lies _ s x 28 ho base 34 i0 (.agg #[.int .i64 0, .int .i64 0, .int .i64 0, .int .i64 0, .slice none 0 0]) 5 56 Tryz.underlying28 hi0 hz0 hz1 hz2 rfl (by decide) cv k xs hs (hown.out.alloc _) ⟨W.heap.size, 0, none⟩ 1 1 [.int .i64 p, .int .i64 d, .int .i64 q, .int .i64 b, .slice ol ll cl] hx rfl (new_cells W _ _) (by intro u hu; simp only [List.mem_cons, List.not_mem_nil, or_false] at hu; rcases hu with rfl | rfl | rfl | rfl | rfl <;> rfl) (by decide) (by unfold maxLen; omega) (by omega) (by show base ≤ (W.alloc _).heap.size; simp; omega) (W.heap.size + 1) (by show (W.alloc _).heap.size = _; simp) ?_
 intro g cap w' h1 h2 h3 _
 have h2' : (W.alloc (.cells #[.int .i64 p, .int .i64 d, .int .i64 q, .int .i64 b, .slice ol ll cl] 34)).grownBy w' cv.ownBlock := grown_drew h2
 have hbx : BoxL w' mb 119 (cv :: rs) := (app_turn h2').box hm.out (fun e => row_box_ne hown.out e hm.out (by decide) rfl)
 exact h g cap w' (Lib.hid h1) (Lib.hid h2') (Lib.hid h3) (Lib.hid hbx) (hbx.cell 0 rfl) (hbx.free 0) hbx.lt
theorem zput_end {W W2 w5 : World} {B base mb g cap : Nat} {K : KV} {X : Nat → Prop} {s : MSt} {O : Obj} {x : Ins} {sl : Value} {xs : List Value} (h : ZkIn W B base mb K X s) (hb : Below W.heap.size W W2) (hrow : W.ownsRow base 34 5 K.c s.code.length xs) (hcell : CellsG 5 (InsM W (fun b => SZ mb K b ∨ X b)) s.code xs) (hop : I64 x.op) (hd : I64 x.d) (ha : I64 x.a) (hbb : I64 x.b) (hl : IntsM W (fun b => SZ mb K b ∨ X b) x.l sl)
  (hg : (W2.alloc O).grownBy w5 K.c.ownBlock) (he : K.c.ownBlock = some g ∨ g = W2.heap.size + 1) (ho : w5.ownsRow base 34 5 (.slice (some ⟨g, 0, none⟩) (s.code.length + 1) cap) (s.code.length + 1) (xs ++ [.int .i64 x.op, .int .i64 x.d, .int .i64 x.a, .int .i64 x.b, sl])) :
  ZkGo B base mb K ⟨.slice (some ⟨g, 0, none⟩) (s.code.length + 1) cap, K.v, K.a⟩ X (s.put x) W (w5.setCell ⟨mb, 0, none⟩ (.slice (some ⟨g, 0, none⟩) (s.code.length + 1) cap)) := by
 have hz := hb.size
 have T1 : Turned (fun b => K.c.ownBlock = some b) W w5 := (Turned.of_below hb).next (app_turn hg)
 have b5 := T1.box h.st.box (fun e => row_box_ne hrow e h.st.box (by decide) rfl)
 have T2 : Turned (fun b => b = mb) w5 (w5.setCell ⟨mb, 0, none⟩ (.slice (some ⟨g, 0, none⟩) (s.code.length + 1) cap)) := Turned.set _ _ _ rfl
 have T : Turned (fun b => b = mb ∨ K.c.ownBlock = some b) W (w5.setCell ⟨mb, 0, none⟩ (.slice (some ⟨g, 0, none⟩) (s.code.length + 1) cap)) := (T1.wider fun b _ h => .inr h).next (T2.wider fun b _ h => .inl h)
 have hTZ : Turned (SZ mb K) W (w5.setCell ⟨mb, 0, none⟩ (.slice (some ⟨g, 0, none⟩) (s.code.length + 1) cap)) := T.wider fun b _ h => h.imp id .inl
 have hless : ∀ b, b < W.heap.size → SZ mb ⟨.slice (some ⟨g, 0, none⟩) (s.code.length + 1) cap, K.v, K.a⟩ b → SZ mb K b := fun b hlt hs => by
  rcases hs with hs | hs | hs
  ·exact .inl hs
  ·have e : g = b := by simpa [Value.ownBlock] using hs
   subst e
   rcases he with h2 | h2
   ·exact .inr (.inl h2)
   ·omega
  ·exact .inr (.inr hs)
 have hX : ∀ b, b < W.heap.size → (SZ mb ⟨.slice (some ⟨g, 0, none⟩) (s.code.length + 1) cap, K.v, K.a⟩ b ∨ X b) → (SZ mb K b ∨ X b) := fun b hb h => h.imp (hless b hb) id
 have hnot : ∀ {v : Value} {n : Nat} {ys : List Value}, W.ownsRow base 3 1 v n ys → ∀ b, v.ownBlock = some b → ¬ (b = mb ∨ K.c.ownBlock = some b) := fun hv b hb hs => by
  rcases hs with hs | hs
  ·exact row_box_ne hv hb h.st.box (by decide) hs
  ·exact row_row_ne hv hb hrow hs (by decide) rfl
 refine ⟨⟨⟨b5.set 0 _, ⟨xs ++ [.int .i64 x.op, .int .i64 x.d, .int .i64 x.a, .int .i64 x.b, sl], ?_, ?_⟩, row_turn h.st.vars T (hnot h.st.vars), row_turn h.st.regs T (hnot h.st.regs), h.st.ne, h.st.i64⟩, h.b1, h.b2, Nat.le_trans h.b4 T.size, fun b hb => Nat.lt_of_lt_of_le (h.bx b hb) T.size⟩, hTZ, hless, hTZ.below h.low h.size⟩
 ·rw [show (s.put x).code.length = s.code.length + 1 by simp [MSt.put]]
  exact row_turn ho T2 (fun b hb e => row_box_ne ho hb b5 (by decide) e)
 ·exact CellsG.snoc (x := x) (cs := [.int .i64 x.op, .int .i64 x.d, .int .i64 x.a, .int .i64 x.b, sl]) rfl ⟨sl, rfl, hop, hd, ha, hbb, hl.kept hTZ (fun _ _ h => .inl h) hX⟩ (hcell.mono fun y _ cs hy => hy.kept hTZ (fun _ _ h => .inl h) hX)
theorem zput_any {B base mb : Nat} {K : KV} {X : Nat → Prop} {s : MSt} (p d q b : Int) (l : List Int) (ol : Option Addr) (ll cl : Nat) (W : World) (h : ZkIn W B base mb K X s) (hk : s.code.length ≤ 1000000) (hop : I64 p) (hd : I64 d) (ha : I64 q) (hb : I64 b) (hl : IntsM W (fun b => SZ mb K b ∨ X b) l (.slice ol ll cl)) :
  Calls Tryz.prog 121 #[.pointer (some ⟨mb, 0, none⟩), .agg #[.int .i64 p, .int .i64 d, .int .i64 q, .int .i64 b, .slice ol ll cl]] W fun e w' => e = .returned (.tuple #[]) ∧ ∃ K', ZkGo B base mb K K' X (s.put ⟨p, d, q, b, l⟩) W w' := by
 obtain ⟨xs, hrow, hcell⟩ := h.st.row
 obtain ⟨oc, cc, hkc⟩ := own_form hrow
 obtain ⟨W2, hW2⟩ : ∃ W2, W.alloc (.cells #[.int .i64 p, .int .i64 d, .int .i64 q, .int .i64 b, .slice ol ll cl] 34) = W2 := ⟨_, rfl⟩
 have HWE := Lib.hid hW2
 have HB2 := Lib.hid (show Below W.heap.size W W2 from by rw [← hW2]; exact Below.one W _)
 have BI := Lib.hid (show BoxL W2 W.heap.size 34 [.int .i64 p, .int .i64 d, .int .i64 q, .int .i64 b, .slice ol ll cl] from by rw [← hW2]; exact BoxL.new rfl _ _)
 have HM := Lib.hid (h.st.box.keep HB2.out)
 have HO := Lib.hid (ownsRow_keep hrow HB2.out)
 have hbs : base ≤ W2.heap.size := Nat.le_trans h.b4 HB2.out.size
 have HEND := Lib.hid (fun (g cap : Nat) (w5 : World) hg he ho => zput_end (x := ⟨p, d, q, b, l⟩) (g := g) (cap := cap) (w5 := w5) (O := .cells #[.int .i64 p, .int .i64 d, .int .i64 q, .int .i64 b, .slice ol ll cl] 34) h HB2.out hrow hcell hop hd ha hb hl hg he ho)
 obtain ⟨KC, KV, KA⟩ := K
 dsimp only at hkc HM HO HEND
 subst hkc
 clear h hW2 hrow hcell hl
 go_enter Tryz.func121, Tryz.ntmps121
 go_upto_region 1 with fail
 rw [HWE.out]
 have i0 := BI.out.cell 0 rfl
 have i1 := BI.out.cell 1 rfl
 have i2 := BI.out.cell 2 rfl
 have i3 := BI.out.cell 3 rfl
 have i4 := BI.out.cell 4 rfl
 have hil := BI.out.lt
 have x0 := HM.out.cell 0 rfl
 have hxl := HM.out.lt
 go_region_law (refine step_append_put rfl (.tmp 8) (.tmp 10) rfl base s.code.length mb _ xs _ p d q b ol ll cl rfl HO HM rfl hk hbs ?_; intro g cap w5 HO5 HG5 HE5 HM5 z0 z1 z2)
 all_goals
  have HE := Lib.hid (HEND.out g cap w5 HG5.out HE5.out HO5.out)
  go_wp2_with fail
  go_end0
  exact ⟨rfl, _, HE.out⟩
end
section
namespace Mk
def NM (s : MSt) : Prop := ∀ y ∈ s.code, ¬ (y.op = 1 ∧ y.d = y.a)
def JR (s : MSt) : Prop := ∀ p ∈ s.vars, p.2 < s.regs
def Unb (s : MSt) (d : Int) : Prop := d < s.regs ∧ ∀ p ∈ s.vars, p.2 ≠ d
def Knows (s : MSt) (sc : Int → Bool) : Prop := ∀ v, sc v = true → v ∈ s.vars.map Prod.fst
structure Nmv (s s' : MSt) : Prop where
 nm : NM s'
 jr : JR s'
 regs : s.regs ≤ s'.regs
 unb : ∀ d, Unb s d → Unb s' d
 keys : ∀ v ∈ s.vars.map Prod.fst, v ∈ s'.vars.map Prod.fst
theorem Nmv.refl {s : MSt} (h1 : NM s) (h2 : JR s) : Nmv s s := ⟨h1, h2, Int.le_refl _, fun _ h => h, fun _ h => h⟩
theorem Nmv.trans {s s' s'' : MSt} (h : Nmv s s') (h' : Nmv s' s'') : Nmv s s'' := ⟨h'.nm, h'.jr, Int.le_trans h.regs h'.regs, fun d hd => h'.unb d (h.unb d hd), fun v hv => h'.keys v (h.keys v hv)⟩
theorem Nmv.knows {s s' : MSt} (h : Nmv s s') {sc : Int → Bool} (hk : Knows s sc) : Knows s' sc := fun v hv => h.keys v (hk v hv)
theorem nm_put {s : MSt} (h : NM s) {x : Ins} (hx : ¬ (x.op = 1 ∧ x.d = x.a)) : NM (s.put x) := fun y hy => by
 rcases List.mem_append.1 hy with hy | hy
 ·exact h y hy
 ·rw [List.mem_singleton.1 hy]; exact hx
theorem Nmv.put {s s' : MSt} (h : Nmv s s') {x : Ins} (hx : ¬ (x.op = 1 ∧ x.d = x.a)) : Nmv s (s'.put x) := ⟨nm_put h.nm hx, h.jr, h.regs, h.unb, h.keys⟩
theorem Nmv.fresh {s s' : MSt} (h : Nmv s s') : Nmv s s'.fresh := ⟨h.nm, fun p hp => by have := h.jr p hp; simp only [MSt.fresh]; omega, by have := h.regs; simp only [MSt.fresh]; omega, fun d hd => ⟨by have := (h.unb d hd).1; simp only [MSt.fresh]; omega, (h.unb d hd).2⟩, h.keys⟩
theorem unb_fresh {s : MSt} (h : JR s) : Unb s.fresh s.regs := ⟨by simp only [MSt.fresh]; omega, fun p hp e => by have := h p hp; omega⟩
theorem Nmv.setB {s s' : MSt} (h : Nmv s s') (k : Nat) (b : Int) : Nmv s (s'.setB k b) := ⟨fun y hy => by
 rcases mem_modify hy with hy | ⟨z, hz, rfl⟩
 ·exact h.nm y hy
 ·exact h.nm z hz, h.jr, h.regs, h.unb, h.keys⟩
theorem Nmv.setA {s s' : MSt} (h : Nmv s s') {k : Nat} {x : Ins} (hx : s'.code[k]? = some x) (h1 : x.op ≠ 1) (a : Int) : Nmv s (s'.setA k a) := ⟨fun y hy => by
 obtain ⟨i, hi⟩ := List.getElem?_of_mem (show y ∈ s'.code.modify k _ from hy)
 rw [List.getElem?_modify] at hi
 by_cases hk : k = i
 ·subst hk
  rw [hx] at hi
  simp at hi
  rw [← hi]
  exact fun h => h1 h.1
 ·cases hy2 : s'.code[i]? with
  | none => rw [hy2] at hi; simp at hi
  | some z =>
   rw [hy2] at hi
   simp [hk] at hi
   rw [← hi]
   exact h.nm z (List.mem_of_getElem? hy2), h.jr, h.regs, h.unb, h.keys⟩
theorem Nmv.bind {s s' : MSt} (h : Nmv s s') (v rs : List Int) (h1 : ∀ r ∈ rs, r < s'.regs) (h2 : ∀ r ∈ rs, ∀ d, Unb s d → r ≠ d) : Nmv s (s'.bind v rs) := ⟨h.nm, fun p hp => by
 rcases List.mem_append.1 hp with hp | hp
 ·exact h.jr p hp
 ·exact h1 _ (List.of_mem_zip hp).2, h.regs, fun d hd => ⟨(h.unb d hd).1, fun p hp => by
 rcases List.mem_append.1 hp with hp | hp
 ·exact (h.unb d hd).2 p hp
 ·exact h2 _ (List.of_mem_zip hp).2 d hd⟩, fun x hx => by
 simp only [MSt.bind, List.map_append, List.mem_append]
 exact .inl (h.keys x hx)⟩
theorem Nmv.ite {s a b : MSt} {c : Prop} [Decidable c] (h1 : c → Nmv s a) (h2 : ¬ c → Nmv s b) : Nmv s (if c then a else b) := by
 split
 ·exact h1 ‹_›
 ·exact h2 ‹_›
theorem nm_strict {s s' : MSt} (h : Nmv s s') (op n d : Int) (l : List Int) : Nmv s (strict op n d l s') := by
 unfold strict
 repeat' (refine Nmv.ite (fun _ => ?_) (fun _ => ?_))
 all_goals first | exact h.put (by simp) | exact (h.put (by simp)).put (by simp) | exact h
theorem nm_ended {s s' : MSt} (h : Nmv s s') (op n : Int) (l : List Int) : Nmv s (ended op n l s') := by
 unfold ended
 repeat' (refine Nmv.ite (fun _ => ?_) (fun _ => ?_))
 all_goals exact h.put (by simp)
theorem lkL_mem : ∀ {l : List (Int × Int)} {v : Int}, v ∈ l.map Prod.fst → ∃ p ∈ l, lkL l v = p.2
 | [], v, h => by simp at h
 | q :: l, v, h => by
  rw [lkL, any_key]
  by_cases hv : v ∈ l.map Prod.fst
  ·rw [if_pos (decide_eq_true hv)]
   obtain ⟨p, hp, e⟩ := lkL_mem hv
   exact ⟨p, by simp [hp], e⟩
  ·rw [if_neg (by simpa using hv)]
   simp only [List.map_cons, List.mem_cons] at h
   rcases h with rfl | h
   ·exact ⟨q, by simp, if_pos rfl⟩
   ·exact absurd h hv
def NInto (x : Trm) : Prop := ∀ (nc nk : Int) (fr : Bool) (sc : Int → Bool) (d : Int) (e : Bool) (s : MSt), Trm.wf nc nk fr x sc = true → NM s → JR s → Knows s sc → (e = false → Unb s d) → Nmv s (into lkL x d e s)
theorem wf_ref {nc nk : Int} {fr : Bool} {n : Int} {v : List Int} {t : List Trm} {sc : Int → Bool} (h : Trm.wf nc nk fr (.mk 1 n v t) sc = true) : sc n = true := by
 have := (wf_parts h).2.2.1
 simpa [Trm.numberB] using this
theorem n_had {x : Trm} (hx : NInto x) {nc nk : Int} {fr : Bool} {sc : Int → Bool} {s : MSt} (hw : Trm.wf nc nk fr x sc = true) (h1 : NM s) (h2 : JR s) (hk : Knows s sc) : Nmv s (had lkL x s).2 ∧ (had lkL x s).1 < (had lkL x s).2.regs ∧ ∀ d, Unb s d → (had lkL x s).1 ≠ d := by
 obtain ⟨op, n, v, t⟩ := x
 by_cases ho : op = 1
 ·subst ho
  rw [show had lkL (.mk 1 n v t) s = (lkL s.vars n, s) by simp [had, hadW, Trm.op, Trm.n]]
  obtain ⟨p, hp, e⟩ := lkL_mem (hk n (wf_ref hw))
  dsimp only
  rw [e]
  exact ⟨.refl h1 h2, h2 p hp, fun d hd => hd.2 p hp⟩
 ·rw [show had lkL (.mk op n v t) s = (s.regs, into lkL (.mk op n v t) s.regs false s.fresh) from if_neg ho]
  have hf := (Nmv.refl h1 h2).fresh
  have h := hx nc nk fr sc s.regs false s.fresh hw hf.nm hf.jr (hf.knows hk) (fun _ => unb_fresh h2)
  exact ⟨hf.trans h, (h.unb _ (unb_fresh h2)).1, fun d hd e => by have := hd.1; dsimp only at e; omega⟩
theorem n_all : ∀ (l : List Trm), (∀ x ∈ l, NInto x) → ∀ {nc nk : Int} {fr : Bool} {sc : Int → Bool} {s : MSt}, (∀ x ∈ l, Trm.wf nc nk fr x sc = true) → NM s → JR s → Knows s sc → Nmv s (allT lkL l s).2 ∧ (∀ r ∈ (allT lkL l s).1, r < (allT lkL l s).2.regs) ∧ ∀ r ∈ (allT lkL l s).1, ∀ d, Unb s d → r ≠ d
 | [], _, _, _, _, _, s, _, h1, h2, _ => by rw [allT]; exact ⟨.refl h1 h2, fun r hr => (by cases hr), fun r hr => (by cases hr)⟩
 | x :: l, ih, nc, nk, fr, sc, s, hw, h1, h2, hk => by
  obtain ⟨a1, a2, a3⟩ := n_had (ih x (by simp)) (hw x (by simp)) h1 h2 hk
  rw [allT]
  change Nmv s (allT lkL l (had lkL x s).2).2 ∧ (∀ r ∈ (had lkL x s).1 :: (allT lkL l (had lkL x s).2).1, r < (allT lkL l (had lkL x s).2).2.regs) ∧ ∀ r ∈ (had lkL x s).1 :: (allT lkL l (had lkL x s).2).1, ∀ d, Unb s d → r ≠ d
  obtain ⟨b1, b2, b3⟩ := n_all l (fun y hy => ih y (by simp [hy])) (fun y hy => hw y (by simp [hy])) a1.nm a1.jr (a1.knows hk)
  refine ⟨a1.trans b1, fun r hr => ?_, fun r hr d hd => ?_⟩
  ·rcases List.mem_cons.1 hr with rfl | hr
   ·have := b1.regs; omega
   ·exact b2 r hr
  ·rcases List.mem_cons.1 hr with rfl | hr
   ·exact a3 d hd
   ·exact b3 r hr d (a1.unb d hd)
theorem n_fix1 : ∀ (v : List Int) (t : List Trm) {s0 s : MSt}, Nmv s0 s → v.length ≤ t.length → Nmv s0 (fix1 v t s) ∧ ∀ x ∈ v, x ∈ (fix1 v t s).vars.map Prod.fst
 | [], t, s0, s, h, _ => by
  rw [show fix1 [] t s = s by rw [fix1]; simp]
  exact ⟨h, fun x hx => by cases hx⟩
 | v :: vs, [], s0, s, h, hl => by simp at hl
 | v :: vs, x :: l, s0, s, h, hl => by
  rw [fix1]
  have h1 : Nmv s0 ((s.fresh.bind [v] [s.regs]).put ⟨7, s.regs, x.n, 0, []⟩) := (h.fresh.bind [v] [s.regs] (fun r hr => by rw [List.mem_singleton.1 hr]; simp only [MSt.fresh]; omega) (fun r hr d hd e => by
   rw [List.mem_singleton.1 hr] at e
   have := (h.unb d hd).1
   omega)).put (by simp)
  obtain ⟨g1, g2⟩ := n_fix1 vs l h1 (by simpa using hl)
  refine ⟨g1, fun y hy => ?_⟩
  rcases List.mem_cons.1 hy with rfl | hy
  ·obtain ⟨k1, _⟩ := n_fix1 vs l (Nmv.refl h1.nm h1.jr) (by simpa using hl)
   exact k1.keys y (by simp [MSt.put, MSt.bind])
  ·exact g2 y hy
theorem n_fill : ∀ (v : List Int) (t : List Trm), (∀ x ∈ t, ∀ y ∈ x.t, NInto y) → ∀ {nc nk : Int} {fr : Bool} {sc : Int → Bool} {s : MSt}, (∀ x ∈ t, ∀ y ∈ x.t, Trm.wf nc nk fr y sc = true) → NM s → JR s → Knows s sc → Nmv s (fill lkL v t s)
 | [], t, _, _, _, _, _, s, _, h1, h2, _ => by
  rw [fill]
  ·exact .refl h1 h2
  ·simp
 | v :: vs, [], _, _, _, _, _, s, _, h1, h2, _ => by
  rw [fill]
  ·exact .refl h1 h2
  ·simp
 | v :: vs, .mk o m u t :: l, ih, nc, nk, fr, sc, s, hw, h1, h2, hk => by
  rw [fill]
  have a := (n_all t (ih (.mk o m u t) (by simp)) (hw (.mk o m u t) (by simp)) h1 h2 hk).1
  have b := a.put (x := ⟨8, 0, lkL (allT lkL t s).2.vars v, 0, (allT lkL t s).1⟩) (by simp)
  exact b.trans (n_fill vs l (fun x hx => ih x (by simp [hx])) (fun x hx => hw x (by simp [hx])) b.nm b.jr (b.knows hk))
theorem n_into : ∀ (k : Nat) (x : Trm), x.all ≤ k → NInto x
 | 0, x, h => by have := x.all_pos; omega
 | k + 1, .mk op n v t, hk => by
  have hlt : ∀ x ∈ t, x.all ≤ k := fun x hx => by have := Trm.all_mem (o := op) (n := n) (v := v) hx; omega
  have ih : ∀ x ∈ t, NInto x := fun x hx => n_into k x (hlt x hx)
  intro nc nk fr sc d e s hw h1 h2 hkn hd
  have hp := wf_parts hw
  by_cases h3 : op = 3
  ·subst h3
   have hc : v.length = 0 ∧ t.length = 3 := by
    have := hp.2.1
    simpa [Trm.countsB] using this
   obtain rfl : v = [] := List.eq_nil_of_length_eq_zero hc.1
   have hwa := wfL_all (by decide) hp.2.2.2
   match t, hc.2 with
   | [a, b, c], _ =>
    rw [into_3]
    show Nmv s (thens (into lkL b) (into lkL c) (had lkL a s).1 d e (had lkL a s).2)
    have g0 := (n_had (ih a (by simp)) (hwa a (by simp)) h1 h2 hkn).1
    obtain ⟨p, hpp⟩ : ∃ p, had lkL a s = p := ⟨_, rfl⟩
    rw [hpp] at g0 ⊢
    have g1 := g0.put (x := ⟨16, 0, p.1, 0, []⟩) (by simp)
    obtain ⟨s1, hs1⟩ : ∃ s1, p.2.put ⟨16, 0, p.1, 0, []⟩ = s1 := ⟨_, rfl⟩
    rw [hs1] at g1
    have g2 := g1.trans (ih b (by simp) nc nk fr sc d e s1 (hwa b (by simp)) g1.nm g1.jr (g1.knows hkn) (fun he => g1.unb d (hd he)))
    obtain ⟨s2, hs2⟩ : ∃ s2, into lkL b d e s1 = s2 := ⟨_, rfl⟩
    rw [hs2] at g2
    cases e with
    | true =>
     have g3 := g2.setB p.2.code.length s2.len
     have g4 := g3.trans (ih c (by simp) nc nk fr sc d true _ (hwa c (by simp)) g3.nm g3.jr (g3.knows hkn) (fun he => (by cases he)))
     simp only [thens, hs1, hs2, if_true]
     exact g4
    | false =>
     have g3 := (g2.put (x := ⟨15, 0, 0, 0, []⟩) (by simp)).setB p.2.code.length (s2.put ⟨15, 0, 0, 0, []⟩).len
     have g4 := g3.trans (ih c (by simp) nc nk fr sc d false _ (hwa c (by simp)) g3.nm g3.jr (g3.knows hkn) (fun _ => g3.unb d (hd rfl)))
     have hlen : p.2.code.length < s2.code.length := by
      have e1 := (Ext.into (lk := lkL) b d false s1).len
      rw [hs2] at e1
      rw [← hs1] at e1
      simp [MSt.put] at e1
      omega
     have hx5 : (into lkL c d false ((s2.put ⟨15, 0, 0, 0, []⟩).setB p.2.code.length (s2.put ⟨15, 0, 0, 0, []⟩).len)).code[s2.code.length]? = some ⟨15, 0, 0, 0, []⟩ := by
      refine (Ext.into (lk := lkL) c d false _).at ?_
      show ((s2.code ++ [_]).modify p.2.code.length _)[s2.code.length]? = _
      rw [List.getElem?_modify]
      have hne : p.2.code.length ≠ s2.code.length := by omega
      simp [hne]
     have g5 := g4.setA hx5 (by decide) (into lkL c d false ((s2.put ⟨15, 0, 0, 0, []⟩).setB p.2.code.length (s2.put ⟨15, 0, 0, 0, []⟩).len)).len
     simp only [thens, hs1, hs2, Bool.false_eq_true, if_false]
     exact g5
  by_cases h6 : op = 6
  ·subst h6
   have hc : v.length = 0 ∧ 1 ≤ t.length := by
    have := hp.2.1
    simpa [Trm.countsB] using this
   obtain rfl : v = [] := List.eq_nil_of_length_eq_zero hc.1
   have hwa := wfL_all (by decide) hp.2.2.2
   obtain ⟨l, x, rfl, _⟩ := snoc_of (t := t) (n := t.length - 1) (by omega)
   rw [into_6]
   have g := (n_all l (fun y hy => ih y (by simp [hy])) (fun y hy => hwa y (by simp [hy])) h1 h2 hkn).1
   exact g.trans (ih x (by simp) nc nk fr sc d e _ (hwa x (by simp)) g.nm g.jr (g.knows hkn) (fun he => g.unb d (hd he)))
  by_cases h8 : op = 8
  ·subst h8
   have hc : t.length = v.length + 1 := by
    have := hp.2.1
    simpa [Trm.countsB] using this
   obtain ⟨l, x, rfl, hl⟩ := snoc_of hc
   have hw2 := hp.2.2.2
   rw [wfL_split (by decide)] at hw2
   simp only [List.length_append, List.length_singleton, Nat.add_sub_cancel, List.take_left, List.drop_left, Bool.and_eq_true, List.all_eq_true] at hw2
   rw [into_8]
   obtain ⟨g, g2, g3⟩ := n_all l (fun y hy => ih y (by simp [hy])) hw2.1 h1 h2 hkn
   have hlen := allT_length lkL l s
   have hb := g.bind v _ g2 g3
   refine hb.trans (ih x (by simp) nc nk fr _ d e _ (hw2.2 x (by simp)) hb.nm hb.jr (fun y hy => ?_) (fun he => hb.unb d (hd he)))
   simp only [Trm.addV, Bool.or_eq_true, List.contains_eq_mem, decide_eq_true_eq] at hy
   rcases hy with hy | hy
   ·exact hb.keys y (hkn y hy)
   ·simp only [MSt.bind, List.map_append, List.mem_append]
    right
    rw [List.map_fst_zip (by omega)]
    exact hy
  by_cases h9 : op = 9
  ·subst h9
   have hc : t.length = v.length + 1 := by
    have := hp.2.1
    simpa [Trm.countsB] using this
   obtain ⟨l, x, rfl, hl⟩ := snoc_of hc
   have hw2 := hp.2.2.2
   rw [wfL_fix] at hw2
   simp only [List.length_append, List.length_singleton, Nat.add_sub_cancel, List.take_left, Bool.and_eq_true, List.all_eq_true] at hw2
   rw [into_9 _ _ _ _ _ _ _ _ hl]
   obtain ⟨g1, g2⟩ := n_fix1 v (l ++ [x]) (Nmv.refl h1 h2) (by simp; omega)
   have hkn2 : Knows (fix1 v (l ++ [x]) s) (Trm.addV sc v) := fun y hy => by
    simp only [Trm.addV, Bool.or_eq_true, List.contains_eq_mem, decide_eq_true_eq] at hy
    rcases hy with hy | hy
    ·exact g1.keys y (hkn y hy)
    ·exact g2 y hy
   have hf : fill lkL v (l ++ [x]) (fix1 v (l ++ [x]) s) = fill lkL v l (fix1 v (l ++ [x]) s) := by
    rw [← fill_take lkL v (l ++ [x]), ← hl, List.take_left]
   have hsub : ∀ z ∈ l, ∀ y ∈ z.t, NInto y := fun z hz y hy => n_into k y (by
    obtain ⟨o, m, u, tz⟩ := z
    have e1 := Trm.all_mem (o := o) (n := m) (v := u) (show y ∈ tz from hy)
    have e2 := hlt (.mk o m u tz) (by simp [hz])
    omega)
   have g3 := g1.trans (n_fill v l hsub (sc := Trm.addV sc v) (nc := nc) (nk := nk) (fr := fr) (fun z hz => by
    have h19 := hw2.2 z hz
    have hwz := hw2.1 z (by simp [hz])
    obtain ⟨o, m, u, ty⟩ := z
    obtain rfl : o = 19 := by simpa [Trm.op] using h19
    have hpy := wf_parts hwz
    obtain rfl : u = [] := List.eq_nil_of_length_eq_zero (counts_novars (by decide) (by decide) hpy.2.1)
    exact wfL_all (by decide) hpy.2.2.2) g1.nm g1.jr hkn2)
   rw [hf]
   refine g3.trans (ih x (by simp) nc nk fr _ d e _ (hw2.1 x (by simp)) g3.nm g3.jr (fun y hy => ?_) (fun he => g3.unb d (hd he)))
   have hx := hkn2 y hy
   exact (n_fill v l hsub (sc := Trm.addV sc v) (nc := nc) (nk := nk) (fr := fr) (fun z hz => by
    have h19 := hw2.2 z hz
    have hwz := hw2.1 z (by simp [hz])
    obtain ⟨o, m, u, ty⟩ := z
    obtain rfl : o = 19 := by simpa [Trm.op] using h19
    have hpy := wf_parts hwz
    obtain rfl : u = [] := List.eq_nil_of_length_eq_zero (counts_novars (by decide) (by decide) hpy.2.1)
    exact wfL_all (by decide) hpy.2.2.2) g1.nm g1.jr hkn2).keys y hx
  obtain rfl : v = [] := List.eq_nil_of_length_eq_zero (counts_novars h8 h9 hp.2.1)
  have hwa := wfL_all h9 hp.2.2.2
  have hmov : ∀ {s' : MSt} {d' : Int}, NM s' → JR s' → Knows s' sc → Unb s' d' → Nmv s' (into lkL (.mk op n [] t) d' false s') := fun {s' d'} a1 a2 a3 a4 => by
   by_cases ho : op = 1
   ·subst ho
    rw [into_f1]
    obtain ⟨p, hpm, e⟩ := lkL_mem (a3 n (wf_ref hw))
    refine (Nmv.refl a1 a2).put (fun h => a4.2 p hpm ?_)
    rw [← e]
    exact h.2.symm
   ·rw [into_f _ _ _ _ _ _ _ h3 h6 h8 h9 ho]
    exact nm_strict (n_all t ih hwa a1 a2 a3).1 _ _ _ _
  cases e with
  | false => exact hmov h1 h2 hkn (hd rfl)
  | true =>
   cases he : endsB op n with
   | true =>
    rw [into_t _ _ _ _ _ _ _ h3 h6 h8 h9 he]
    exact nm_ended (n_all t ih hwa h1 h2 hkn).1 _ _ _
   | false =>
    rw [into_th _ _ _ _ _ _ _ h3 h6 h8 h9 he]
    by_cases ho : op = 1
    ·subst ho
     rw [show had lkL (.mk 1 n [] t) s = (lkL s.vars n, s) by simp [had, hadW, Trm.op, Trm.n]]
     exact (Nmv.refl h1 h2).put (by simp)
    ·rw [show had lkL (.mk op n [] t) s = (s.regs, into lkL (.mk op n [] t) s.regs false s.fresh) from if_neg ho]
     have hf := (Nmv.refl h1 h2).fresh
     exact (hf.trans (hmov hf.nm hf.jr (hf.knows hkn) (unb_fresh h2))).put (by simp)
theorem proc_noMov {c : Cod} {nc nk : Int} {fr : Bool} (hw : Trm.wf nc nk fr c.body (Trm.addV (fun _ => false) c.v) = true) : Peep.NoMov (proc lkL c).code := by
 unfold proc
 refine (n_into c.body.all c.body (Nat.le_refl _) nc nk fr _ 0 true _ hw (fun y hy => by cases hy) (fun p hp => ?_) (fun x hx => ?_) (fun h => by cases h)).nm
 ·have h1 := (List.of_mem_zip hp).2
  simp only [List.mem_map, List.mem_range] at h1
  obtain ⟨i, hi, e⟩ := h1
  dsimp only
  omega
 ·simp only [Trm.addV, Bool.false_or, List.contains_eq_mem, decide_eq_true_eq] at hx
  rw [List.map_fst_zip (by simp)]
  exact hx
end Mk
end
end Go.Proofs.YtigkhmppnnljiaaGreatDoor

/-
  What the proofs lean on: Zh, MkQ, PeepMade.
-/
import Derived.Test.YtigkhmppnnljiaaGreatDoorPreA25
import Derived.Test.YtigkhmppnnljiaaGreatDoorPreA26
import Derived.Test.YtigkhmppnnljiaaGreatDoorPreA34
set_option maxRecDepth 100000
set_option maxHeartbeats 16000000
namespace Go.Proofs.YtigkhmppnnljiaaGreatDoor
section
open Go Go.RowKit Mk
def ZIntoC (e : Bool) (x : Trm) : Prop := ∀ (c0 c1 c2 c3 : Value) (B base mb : Nat) (K : KV) (X : Nat → Prop) (s : MSt) (d : Int) (nc nk : Int) (fr : Bool) (sc : Int → Bool) (W : World), TrmR W B x [c0, c1, c2, c3] → ZkIn W B base mb K X s → Trm.wf nc nk fr x sc = true → Room s (6 * x.all - 2) → 0 ≤ d ∧ d ≤ 1900000 →
 Calls Tryz.prog 76 #[.pointer (some ⟨mb, 0, none⟩), .agg #[c0, c1, c2, c3], .int .i64 d, .bool e] W fun r w' => r = .returned (.tuple #[]) ∧ ∃ K', ZkGo B base mb K K' X (Mk.into Mk.lkF x d e s) W w'
def ZHadC (x : Trm) : Prop := ∀ (c0 c1 c2 c3 : Value) (B base mb : Nat) (K : KV) (X : Nat → Prop) (s : MSt) (nc nk : Int) (fr : Bool) (sc : Int → Bool) (W : World), TrmR W B x [c0, c1, c2, c3] → ZkIn W B base mb K X s → Trm.wf nc nk fr x sc = true → Room s (6 * x.all - 1) →
 Calls Tryz.prog 118 #[.pointer (some ⟨mb, 0, none⟩), .agg #[c0, c1, c2, c3]] W fun r w' => r = .returned (.int .i64 (Mk.had Mk.lkF x s).1) ∧ ∃ K', ZkGo B base mb K K' X (Mk.had Mk.lkF x s).2 W w'
def ZAllC (l : List Trm) : Prop := ∀ (sl : Value) (B base mb : Nat) (K : KV) (X : Nat → Prop) (s : MSt) (nc nk : Int) (fr : Bool) (sc : Int → Bool) (W : World), TrmS W B l sl → ZkIn W B base mb K X s → (∀ x ∈ l, Trm.wf nc nk fr x sc = true) → Room s (6 * Trm.allL l) →
 Calls Tryz.prog 123 #[.pointer (some ⟨mb, 0, none⟩), sl] W fun r w' => ∃ rv, r = .returned rv ∧ ∃ K', ZkGo B base mb K K' X (Mk.allT Mk.lkF l s).2 W w' ∧ IntsM w' (fun b => SZ mb K' b ∨ X b) (Mk.allT Mk.lkF l s).1 rv
theorem zhad_any (x : Trm) (hx : ZIntoC false x) : ZHadC x := by
 intro c0 c1 c2 c3 B base mb K X s nc nk fr sc W hv hm hw hroom
 have hroom2 := Room.mono hroom (k' := 1) (by have := x.all_pos; omega)
 obtain ⟨W1, hW1⟩ : ∃ W1, W.alloc (.cells #[c0, c1, c2, c3] 41) = W1 := ⟨_, rfl⟩
 have HB1 := Lib.hid (show Below W.heap.size W W1 from by rw [← hW1]; exact Below.one W _)
 have HBX := Lib.hid (show BoxL W1 W.heap.size 41 [c0, c1, c2, c3] from by rw [← hW1]; exact BoxL.new rfl _ _)
 have HM := Lib.hid (hm.keep HB1.out)
 have hsz := hm.size
 have HV := Lib.hid (TrmR.kept (HB1.out.mono hm.size) _ _ hv)
 have HW := Lib.hid hW1
 have HX := Lib.hid hx
 have HLT := Lib.hid hm.st.lt
 obtain ⟨op, n, v, t⟩ := x
 obtain ⟨ov, lv, cvv, ot, lt, ct, rfl, rfl, rfl, rfl, hn⟩ := TrmR.shape hv
 dsimp only [Trm.op, Trm.n] at *
 have x0 := HBX.out.cell 0 rfl
 have x1 := HBX.out.cell 1 rfl
 have x2 := HBX.out.cell 2 rfl
 have x3 := HBX.out.cell 3 rfl
 have xl := HBX.out.lt
 by_cases h1 : op = 1
 ·subst h1
  have hpost : (Mk.had Mk.lkF (.mk 1 n v t) s) = (Mk.lkF s.vars n, s) := by simp [Mk.had, Mk.hadW, Trm.op, Trm.n]
  rw [hpost]
  have HRG := Lib.hid (zregister_any n W1 HM.out _ rfl)
  clear hv hm hx hW1 hw hroom hpost
  go_enter Tryz.func118, Tryz.ntmps118
  go_upto_region 2 with fail
  rw [HW.out]
  go_wp2_with fail
  with_reducible refine HRG.out.mono ?_
  rintro e w2 ⟨rfl, hb2⟩
  have HB2 := Lib.hid hb2
  clear hb2 x0 x1 x2 x3 xl
  go_wp2_with fail
  go_ret
  exact ⟨rfl, K, ((ZkGo.refl HM.out).after HB2.out).before HB1.out hsz⟩
 ·have f1 : (op == 1) = false := by simpa using h1
  have hpost : (Mk.had Mk.lkF (.mk op n v t) s) = (s.regs, Mk.into Mk.lkF (.mk op n v t) s.regs false s.fresh) := if_neg h1
  rw [hpost]
  have HF := Lib.hid (zfresh_any W1 HM.out hroom2)
  have hro := Lib.hid hroom
  have hall := (Trm.mk op n v t).all_pos
  have hwf := Lib.hid hw
  clear hv hm hx hW1 hw hroom hpost
  go_enter Tryz.func118, Tryz.ntmps118
  go_upto_region 3 with fail
  rw [HW.out]
  go_wp2_with fail
  refine HF.out.mono ?_
  rintro e w2 ⟨rfl, hg⟩
  have HG := Lib.hid hg
  have HBX2 := Lib.hid (HG.out.turned.box HBX.out (fun hs => Nat.lt_irrefl _ (HLT.out _ hs)))
  have HI := Lib.hid (HX.out _ _ _ _ B base mb K X s.fresh s.regs nc nk fr sc w2 (TrmR.kept HG.out.low _ _ HV.out) HG.out.inn hwf.out (Room.fresh (hro.out.mono (by omega))) ⟨hro.out.2.1, by have := hro.out.2.2.1; omega⟩)
  clear x0 x1 x2 x3 xl hg
  have x0 := HBX2.out.cell 0 rfl
  have x1 := HBX2.out.cell 1 rfl
  have x2 := HBX2.out.cell 2 rfl
  have x3 := HBX2.out.cell 3 rfl
  have xl := HBX2.out.lt
  go_wp2_with fail
  refine HI.out.mono ?_
  rintro e w3 ⟨rfl, K', hg⟩
  have HG3 := Lib.hid ((HG.out.next hg).before HB1.out hsz)
  clear hg x0 x1 x2 x3 xl
  go_wp2_with fail
  go_ret
  exact ⟨rfl, _, HG3.out⟩
theorem zall_any (l : List Trm) (hl : ∀ x ∈ l, ZHadC x) : ZAllC l := by
 intro sl B base mb K X s nc nk fr sc W hv hm hw hroom
 obtain ⟨o, len, cap, rfl⟩ := SlC.form hv
 obtain ⟨hlen, hcap, hmax⟩ := SlC.lens hv
 have HV := Lib.hid hv
 have HL := Lib.hid hlen
 have HM := Lib.hid hm
 have HH := Lib.hid hl
 have HWF := Lib.hid hw
 have HRO := Lib.hid hroom
 have hshort : l.length ≤ 300000 := by have := Trm.allL_length l; have := hroom.1; omega
 have hsz := hm.size
 have HB := Lib.hid (fun (j : Nat) => show ∀ x ∈ (Mk.allT Mk.lkF (l.take j) s).1, I64 x from fun x hx => by
  have h1 := (Room.allT (k := 0) Mk.lkF_ok (l.take j) s (hroom.mono (by have := allLT_take l j; omega))).2 x hx
  exact ⟨by omega, by omega⟩)
 clear hv hlen hm hl hw hroom
 go_enter Tryz.func123, Tryz.ntmps123
 go_wp2_with fail
 go_loopg [6, 5] len (fun g i ov wr => ∃ (j : Nat) (K' : KV), g = len - j ∧ i = .int .i64 j ∧ j ≤ len ∧ Hid (ZkGo B base mb K K' (fun b => X b ∨ ov.ownBlock = some b) (Mk.allT Mk.lkF (l.take j) s).2 W wr) ∧ Hid (wr.ownsRow W.heap.size 3 1 ov (Mk.allT Mk.lkF (l.take j) s).1.length ((Mk.allT Mk.lkF (l.take j) s).1.map (Value.int .i64))) ∧ Hid (∀ b, ov.ownBlock = some b → ¬ SZ mb K' b))
 case atStart => exact ⟨0, K, rfl, rfl, by omega, Lib.hid (by simpa [Mk.allT] using ZkGo.refl (HM.out.turn (X' := fun b => X b ∨ (Value.slice none 0 0).ownBlock = some b) (fun b _ h => h.elim id (fun h => by simp [Value.ownBlock] at h)) (fun b h => h.elim (HM.out.bx b) (fun h => by simp [Value.ownBlock] at h)))), Lib.hid (by simpa [Mk.allT] using World.ownsRow_nil _ _ _ _), Lib.hid (fun b h => by simp [Value.ownBlock] at h)⟩
 case round =>
  obtain ⟨j, K', rfl, rfl, hj, HG, HO, HAP⟩ := hrel
  by_cases hjl : j < len
  ·obtain ⟨x, hx⟩ : ∃ x, l[j]? = some x := ⟨_, List.getElem?_eq_getElem (by rw [← HL.out]; exact hjl)⟩
   obtain ⟨b, off, cs, ho, _, hcl, hcell, hr⟩ := SlC.at HV.out HG.out.low hx
   subst ho
   match cs, hcl with
   | [c0, c1, c2, c3], _ =>
    have e0 := hcell 0 _ rfl
    have e1 := hcell 1 _ rfl
    have e2 := hcell 2 _ rfl
    have e3 := hcell 3 _ rfl
    simp only [Nat.add_zero] at e0
    have hbl := cell_lt e0
    obtain ⟨qa, qb, qc, qd, qe, qf, rfl, rfl, rfl, rfl, _⟩ := TrmR.shape hr
    have hrm := Room.allT (k := 6 * x.all) Mk.lkF_ok (l.take j) s (HRO.out.mono (by have := allL_snoc hx; have := allLT_take l (j + 1); omega))
    have HC := Lib.hid (HH.out x (List.mem_of_getElem? hx) _ _ _ _ B base mb K' _ (Mk.allT Mk.lkF (l.take j) s).2 nc nk fr sc wr (TrmR.kept HG.out.low _ _ hr) HG.out.inn (HWF.out x (List.mem_of_getElem? hx)) (hrm.1.mono (by omega)))
    have HTK := Lib.hid (allT_snoc Mk.lkF hx s)
    have hjb := Lib.hid (HB.out (j + 1))
    obtain ⟨q, hq⟩ : ∃ q, Mk.had Mk.lkF x (Mk.allT Mk.lkF (l.take j) s).2 = q := ⟨_, rfl⟩
    have HLEN := Lib.hid (show (Mk.allT Mk.lkF (l.take j) s).1.length = j from by rw [allT_length, List.length_take]; have := HL.out; omega)
    rw [hq] at HC HTK
    clear hr hrm hx hq hcell
    go_wp2_with fail
    refine HC.out.mono ?_
    rintro e w2 ⟨rfl, K2, hg2⟩
    have HG2 := Lib.hid (HG.out.next hg2)
    have hq64 : I64 q.1 := hjb.out _ (by rw [HTK.out]; simp)
    have HQ := Lib.hid hq64
    have HO2 := Lib.hid (row_same HO.out (fun c hc => hg2.turned.block c (ownBlock_lt HO.out hc) (HAP.out c hc)))
    have HAP2 := Lib.hid (show ∀ b, u5.ownBlock = some b → ¬ SZ mb K2 b from fun b h hs => HAP.out b h (hg2.less b (ownBlock_lt HO.out h) hs))
    have hw2 : W.heap.size ≤ w2.heap.size := HG2.out.turned.size
    have hlen2 : (Mk.allT Mk.lkF (l.take j) s).1.length ≤ 300000 := by have := HLEN.out; have := HL.out; omega
    obtain ⟨i0, hi0, hz0, hz1, hz2⟩ := info_parts info_int
    clear hg2 hq64 e0 e1 e2 e3 hbl
    go_wp2_with (at_builtin; refine wpList_append_lies _ rfl (.tmp 13) (.tmp 20) 32 rfl W.heap.size 3 i0 (.int .i64 0) 1 8 Tryz.underlying32 hi0 hz0 hz1 hz2 rfl (by decide) u5 (Mk.allT Mk.lkF (l.take j) s).1.length _ rfl (HO2.out.alloc _) ⟨w2.heap.size, 0, none⟩ 1 1 [.int .i64 q.1] rfl rfl (new_cells w2 _ _) (by intro u hu; simp only [List.mem_cons, List.not_mem_nil, or_false] at hu; subst hu; rfl) (by decide) (by unfold maxLen; omega) (by omega) (by simp; omega) (w2.heap.size + 1) (by simp) ?_)
    intro g cap w3 hown hgrow hlie hglt
    have HT3 : Turned (fun b => u5.ownBlock = some b) w2 w3 := (Turned.of_below (Below.one w2 _)).next (Turned.grown hgrow (fun b h => h))
    have HTT : Turned (SZ mb K) W w3 := HG2.out.turned.trans HT3 (fun b hb h => by have := ownBlock_base HO2.out h; omega)
    have hgS : ¬ SZ mb K2 g := fun hs => by
     rcases hlie with h | h
     ·exact HAP2.out g h hs
     ·have := HG2.out.inn.st.lt g hs
      omega
    have HAP3 := Lib.hid (show ∀ b, (Value.slice (some ⟨g, 0, none⟩) ((Mk.allT Mk.lkF (l.take j) s).1.length + 1) cap).ownBlock = some b → ¬ SZ mb K2 b from fun b h => by
     have e : g = b := by simpa [Value.ownBlock] using h
     subst e
     exact hgS)
    have HGN := Lib.hid (show ZkGo B base mb K K2 (fun b => X b ∨ (Value.slice (some ⟨g, 0, none⟩) ((Mk.allT Mk.lkF (l.take j) s).1.length + 1) cap).ownBlock = some b) (Mk.allT Mk.lkF (l.take (j + 1)) s).2 W w3 from by
     rw [HTK.out]
     refine ⟨⟨HG2.out.inn.st.keep HT3 (fun b _ h => ⟨.inr h, HAP2.out b h⟩) (fun b hb h => ?_), HG2.out.inn.b1, HG2.out.inn.b2, Nat.le_trans HG2.out.inn.b4 HT3.size, fun b h => ?_⟩, HTT, HG2.out.less, HTT.below HM.out.low hsz⟩
     ·refine h.imp id fun e => ?_
      have e : g = b := by simpa [Value.ownBlock] using e
      subst e
      rcases hlie with h | h
      ·exact h
      ·omega
     ·rcases h with h | h
      ·exact Nat.lt_of_lt_of_le (HG2.out.inn.bx b (.inl h)) HT3.size
      ·have e : g = b := by simpa [Value.ownBlock] using h
       subst e
       exact hglt)
    have HON := Lib.hid (show w3.ownsRow W.heap.size 3 1 (.slice (some ⟨g, 0, none⟩) ((Mk.allT Mk.lkF (l.take j) s).1.length + 1) cap) (Mk.allT Mk.lkF (l.take (j + 1)) s).1.length ((Mk.allT Mk.lkF (l.take (j + 1)) s).1.map (Value.int .i64)) from by
     rw [HTK.out]
     simpa using hown)
    clear hown hgrow hlie hglt HT3 HTT hgS
    go_wp2_with fail
    go_roundg (len - (j + 1))
    case measure => omega
    case rel => exact ⟨j + 1, K2, rfl, by go_num, by omega, HGN, HON, HAP3⟩
  ·obtain rfl : j = len := by omega
   have HE := Lib.hid (show l.take j = l from List.take_of_length_le (by rw [← HL.out]; exact Nat.le_refl _))
   have hg := HG.out
   have ho := HO.out
   have hb := HB.out j
   rw [HE.out] at hg ho hb
   have HG2 := Lib.hid (show ZkGo B base mb K K' X (Mk.allT Mk.lkF l s).2 W wr from ⟨hg.inn.turn (fun b _ h => .inl h) (fun b h => hg.inn.bx b (.inl h)), hg.turned, hg.less, hg.low⟩)
   have HIN := Lib.hid (show IntsM wr (fun b => SZ mb K' b ∨ X b) (Mk.allT Mk.lkF l s).1 u5 from IntsM.of_row ho hb (fun b h hs => by
    rcases hs with hs | hs
    ·exact HAP.out b h hs
    ·have := HM.out.bx b hs
     have := ownBlock_base ho h
     omega))
   clear hg ho hb HG HO
   go_wp2_with fail
   go_ret
   exact ⟨_, rfl, K', HG2.out, HIN.out⟩
end
section
open Go Go.RowKit Mk
theorem IntsM.gap {W : World} {S : Nat → Prop} {H : Nat} {l : List Int} {v : Value} (h : IntsM W S l v) (hS : ∀ b, b < H → S b) : SlC (Go.Proofs.YtigkhmppnnljiaaGreatDoor.gap W 0 H) W.heap.size 1 IntR l v := by
 obtain ⟨⟨o, len, cap, rfl, h1, h2, h3, h4⟩, h5⟩ := h
 refine ⟨o, len, cap, rfl, h1, h2, h3, ?_⟩
 cases o with
 | none => exact h4
 | some a =>
  by_cases hl : l = []
  ·subst hl
   exact ⟨fun h => absurd rfl h, fun i x hx => by simp at hx⟩
  ·have hb : H ≤ a.block := Nat.le_of_not_lt fun hlt => h5 a.block rfl hl (hS _ hlt)
   refine ⟨h4.1, fun i x hx => ?_⟩
   obtain ⟨cs, g1, g2, g3⟩ := h4.2 i x hx
   exact ⟨cs, g1, fun j u hj => (gap_other (by omega)).trans (g2 j u hj), g3⟩
def varsTo (v : List Int) (j : Nat) : List (Int × Int) := (v.take j).zip ((List.range j).map fun (i : Nat) => (i : Int))
theorem varsTo_snoc {v : List Int} {j : Nat} {x : Int} (hx : v[j]? = some x) : varsTo v (j + 1) = varsTo v j ++ [(x, (j : Int))] := by
 have hj := (List.getElem?_eq_some_iff.1 hx).1
 unfold varsTo
 rw [List.take_add_one, hx, List.range_succ, List.map_append, List.zip_append (by simp; omega)]
 rfl
theorem varsTo_length (v : List Int) (j : Nat) (h : j ≤ v.length) : (varsTo v j).length = j := by simp [varsTo]; omega
def ProcPost (H : Nat) (p : Proc) (w : World) (e : Ending) (w' : World) : Prop := ∃ o l c, e = .returned (.agg #[.int .i64 p.args, .bool p.rest, .int .i64 p.regs, .slice o l c, .slice none 0 0]) ∧ ProcR (Go.Proofs.YtigkhmppnnljiaaGreatDoor.gap w' 0 H) w'.heap.size p [.int .i64 p.args, .bool p.rest, .int .i64 p.regs, .slice o l c, .slice none 0 0] ∧ Below w.heap.size w w'
end
section
namespace Peep
open Unt
def Like (x y : Ins) : Prop := y = x ∨ (x.op = 15 ∧ ∃ a, y = { x with a := a }) ∨ (x.op = 16 ∧ ∃ b, y = { x with b := b })
theorem like_mapT {x y : Ins} (g : Int → Int) (h : Like x y) : Like x (mapT g y) := by
 unfold mapT
 rcases h with rfl | ⟨h, a, rfl⟩ | ⟨h, b, rfl⟩
 ·split
  ·exact .inr (.inl ⟨‹_›, _, rfl⟩)
  ·split
   ·exact .inr (.inr ⟨‹_›, _, rfl⟩)
   ·exact .inl rfl
 ·rw [if_pos h]
  exact .inr (.inl ⟨h, _, rfl⟩)
 ·rw [if_neg (show ¬ x.op = 15 by omega), if_pos h]
  exact .inr (.inr ⟨h, _, rfl⟩)
theorem mem_without {gone : Nat → Bool} {L : List Ins} {y : Ins} (h : y ∈ without gone L) : ∃ x ∈ L, y = mapT (fun t => (cnt gone t.toNat : Nat)) x := by
 obtain ⟨i, hi⟩ := List.getElem?_of_mem h
 obtain ⟨k, x, _, _, _, hx, hnew⟩ := Fit.get (gone := gone) (code := L) (List.getElem?_eq_some_iff.1 hi).1
 exact ⟨x, List.mem_of_getElem? hx, Option.some.inj (hi.symm.trans hnew)⟩
theorem mem_clean {C : List Ins} {y : Ins} (h : y ∈ cleanC C) : ∃ x ∈ C, Like x y := by
 obtain ⟨x2, h2, rfl⟩ := mem_without h
 obtain ⟨x1, h1, rfl⟩ := mem_without h2
 obtain ⟨x, hx, rfl⟩ := List.mem_map.1 h1
 exact ⟨x, hx, like_mapT _ (like_mapT _ (like_mapT _ (.inl rfl)))⟩
theorem clean_le (C : List Ins) : (cleanC C).length ≤ C.length := by
 refine Nat.le_trans (without_le _ _) (Nat.le_trans (without_le _ _) ?_)
 simp [turned]
theorem Like.op {x y : Ins} (h : Like x y) : y.op = x.op := by rcases h with rfl | ⟨_, _, rfl⟩ | ⟨_, _, rfl⟩ <;> rfl
theorem Like.l {x y : Ins} (h : Like x y) : y.l = x.l := by rcases h with rfl | ⟨_, _, rfl⟩ | ⟨_, _, rfl⟩ <;> rfl
theorem fits_like {x y : Ins} {regs nc nc' np nk : Int} (hf : fits x regs nc np nk = true) (h : Like x y) (h15 : y.op = 15 → 0 ≤ y.a ∧ y.a < nc') (h16 : y.op = 16 → 0 ≤ y.b ∧ y.b < nc') : fits y regs nc' np nk = true := by
 simp only [fits, Bool.and_eq_true] at hf ⊢
 obtain ⟨f1, f2, f3, f4, f5, f6, f7⟩ := hf
 rcases h with rfl | ⟨ho, a, rfl⟩ | ⟨ho, b, rfl⟩
 ·refine ⟨f1, f2, f3, f4, f5, f6, ?_⟩
  by_cases e15 : y.op = 15
  ·have := h15 e15
   simp [tailOk, e15, below, this]
  ·by_cases e16 : y.op = 16
   ·have := h16 e16
    simp [tailOk, e16, below, this]
   ·simpa only [tailOk, if_neg e15, if_neg e16] using f7
 ·have := h15 ho
  refine ⟨f1, f2, ?_, f4, f5, f6, ?_⟩
  ·simp [ho, pN]
  ·simp only [tailOk, ho]
   simpa [below] using this
 ·have := h16 ho
  refine ⟨f1, f2, f3, ?_, f5, f6, ?_⟩
  ·simp [ho, pM]
  ·simp only [tailOk, ho]
   simpa [below] using this
theorem last_closed {L : List Ins} (h : Closed L) (h22 : ∀ x ∈ L, x.op ≤ 22) : lastB (lastOp L) = true := by
 obtain ⟨x, hx⟩ : ∃ x, L[L.length - 1]? = some x := ⟨_, List.getElem?_eq_getElem (by have := h.1; omega)⟩
 rw [lastOp, List.getLast?_eq_getElem?, hx]
 have h1 := h22 x (List.mem_of_getElem? hx)
 have h2 := h.2 _ x hx
 simp only [lastB, Bool.or_eq_true, Bool.and_eq_true, decide_eq_true_eq]
 by_cases hc : x.op ≠ 15 ∧ x.op < 19
 ·have := h2 (L.length - 1 + 1) (by simp [succs, hc])
  omega
 ·omega
theorem clean_right {p : Proc} {np nk : Int} (hh : headB p = true) (hl : lastB (lastOp p.code) = true) (hf : ∀ x ∈ p.code, fits x p.regs p.code.length np nk = true) : headB (cleanP p) = true ∧ lastB (lastOp (cleanC p.code)) = true ∧ ∀ x ∈ cleanC p.code, fits x p.regs (cleanC p.code).length np nk = true := by
 have hh0 := hh
 simp only [headB, Bool.not_eq_true', Bool.or_eq_false_iff, decide_eq_false_iff_not] at hh
 have hr : 0 ≤ p.regs := by omega
 have hC := Live.closed_of hr (by omega) hl hf
 have hc := (cleaned_all (turned_closed hC) (metOf_iff p.code)).1
 have hn : ∀ x ∈ cleanC p.code, (x.op = 15 → 0 ≤ x.a) ∧ (x.op = 16 → 0 ≤ x.b) := without_nat
 have hle := clean_le p.code
 refine ⟨?_, last_closed hc (fun y hy => ?_), fun y hy => ?_⟩
 ·have := hc.1
  have e : (cleanP p).code = cleanC p.code := rfl
  simp only [headB, Bool.not_eq_true', Bool.or_eq_false_iff, decide_eq_false_iff_not, e]
  refine ⟨hh.1, hh.2.1, hh.2.2.1, hh.2.2.2.1, ?_, by omega⟩
  change 0 < (cleanC p.code).length at this
  omega
 ·obtain ⟨x, hx, hxy⟩ := mem_clean hy
  have := (Live.fits_facts hr (hf x hx)).1
  rw [hxy.op]
  exact this.2
 ·obtain ⟨x, hx, hxy⟩ := mem_clean hy
  obtain ⟨k, hk⟩ := List.getElem?_of_mem hy
  refine fits_like (hf x hx) hxy (fun h15 => ?_) (fun h16 => ?_)
  ·have h1 := (hn y hy).1 h15
   have := hc.2 k y hk _ (isT_succs (t := y.a) (.inl ⟨h15, rfl⟩) k)
   change _ < (cleanC p.code).length at this
   omega
  ·have h1 := (hn y hy).2 h16
   have := hc.2 k y hk _ (isT_succs (t := y.b) (.inr ⟨h16, rfl⟩) k)
   change _ < (cleanC p.code).length at this
   omega
theorem procsB_clean {nk np : Int} : ∀ {l : List Proc} {all all' : Int}, all' ≤ all → procsB nk np l all = true → procsB nk np (l.map cleanP) all' = true
 | [], _, _, _, _ => rfl
 | p :: l, all, all', ha, h => by
  simp only [procsB, Bool.and_eq_true, decide_eq_true_eq, List.all_eq_true] at h
  obtain ⟨h1, h2, h3, h4, h5⟩ := h
  obtain ⟨g1, g2, g3⟩ := clean_right h1 h3 h4
  have hle := clean_le p.code
  simp only [List.map_cons, procsB, Bool.and_eq_true, decide_eq_true_eq, List.all_eq_true]
  have e : (cleanP p).code = cleanC p.code := rfl
  rw [e]
  exact ⟨g1, by omega, g2, g3, procsB_clean (by omega) h5⟩
theorem cleanU_eq {u : Unt} (h : clOk u = true) : cleanU u = ⟨u.consts, u.procs.map cleanP⟩ := by rw [cleanU, if_pos h]
theorem cleanU_ok {u : Unt} (h : clOk u = true) : clOk (cleanU u) = true := by
 rw [cleanU_eq h]
 simp only [clOk, Bool.and_eq_true] at h ⊢
 refine ⟨?_, ?_⟩
 ·have h1 := h.1
  simp only [Unt.okB, Bool.and_eq_true, List.length_map] at h1 ⊢
  exact ⟨h1.1, h1.2.1, h1.2.2.1, procsB_clean (Int.le_refl _) h1.2.2.2⟩
 ·simp [cleanP]
theorem clean_short {u : Unt} (h : clOk u = true) (hs : Live.Short u) : Live.Short (cleanU u) := by
 rw [cleanU_eq h]
 intro q hq
 obtain ⟨p, hp, rfl⟩ := List.mem_map.1 hq
 obtain ⟨h1, h2⟩ := hs p hp
 refine ⟨Nat.le_trans (clean_le p.code) h1, fun y hy => ?_⟩
 obtain ⟨x, hx, hxy⟩ := mem_clean hy
 rw [hxy.l]
 exact h2 x hx
theorem rests {u : Unt} (h : clOk u = true) (hm : ∀ p ∈ u.procs, Made p.code) : cleanU (cleanU u) = cleanU u ∧ ∀ p ∈ (cleanU u).procs, Rest p.code := by
 have hr : ∀ p ∈ u.procs, Rest (cleanC p.code) := fun p hp => cleaned_rest (hm p hp) (metOf_iff p.code)
 constructor
 ·rw [cleanU_eq (cleanU_ok h), cleanU_eq h]
  dsimp only
  congr 1
  rw [List.map_map]
  refine List.map_congr_left fun p hp => ?_
  show (⟨p.args, p.rest, p.regs, cleanC (cleanC p.code), []⟩ : Proc) = ⟨p.args, p.rest, p.regs, cleanC p.code, []⟩
  rw [show cleanC (cleanC p.code) = cleanC p.code from (hr p hp).fix (metOf_iff _)]
 ·rw [cleanU_eq h]
  intro q hq
  obtain ⟨p, hp, rfl⟩ := List.mem_map.1 hq
  exact hr p hp
end Peep
namespace Mdl
theorem unit_made {m : Mdl} (h : m.okB = true) (hu : (m.unit Mk.lkL).okB = true) : Peep.clOk (m.unit Mk.lkL) = true ∧ ∀ p ∈ (m.unit Mk.lkL).procs, Peep.Made p.code := by
 have hP := unit_procs h
 refine ⟨?_, fun p hp => ?_⟩
 ·simp only [Peep.clOk, hu, Bool.true_and, Bool.not_eq_true', List.any_eq_false, decide_eq_true_eq]
  intro p hp
  obtain ⟨_, _, _, _, _, _, ha⟩ := hP p hp
  simp [ha]
 ·obtain ⟨h1, h2⟩ := Peep.proc_ready hu hp
  obtain ⟨_, _, hf, _⟩ := hP p hp
  have hm : Peep.NoMov p.code := by
   rw [okB] at h
   simp only [Bool.and_eq_true] at h
   obtain ⟨_, ⟨g1, g2⟩, g3⟩ := h
   rcases List.mem_append.1 hp with hp | hp
   ·obtain ⟨c, hc, rfl⟩ := List.mem_map.1 hp
    exact Mk.proc_noMov (codes_each g3 c hc).1
   ·rw [List.mem_singleton.1 hp]
    exact Mk.proc_noMov (c := ⟨[], false, m.body⟩) (by rw [Trm.addV_nil]; exact g1)
  refine ⟨h1, fun k y hy t ht => ?_, hm⟩
  have hw := hf.within.at hy t.toNat (by rw [Nat.zero_add]; exact Peep.isT_succs ht k)
  have hi := h2 y (List.mem_of_getElem? hy)
  refine ⟨?_, by omega⟩
  rcases ht with ⟨ho, rfl⟩ | ⟨ho, rfl⟩
  ·exact (hi.1 ho).1
  ·exact (hi.2 ho).1
end Mdl
end
end Go.Proofs.YtigkhmppnnljiaaGreatDoor

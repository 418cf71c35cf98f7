/-
  What the proofs lean on: ChkC, MkSh.
-/
import Derived.Defers
import Derived.Test.YtigkhmppnnljiaaGreatDoorShiftA09
import Derived.Test.YtigkhmppnnljiaaGreatDoorShiftA19
import Derived.Test.YtigkhmppnnljiaaGreatDoorShiftA20
namespace Go.Proofs.YtigkhmppnnljiaaGreatDoor
open Go Go.RowKit

theorem SlC.takes {α : Type} {w : World} {B size : Nat} {R : α → List Value → Prop} {l : List α} {o : Option Addr} {len cap n : Nat} (h : SlC w B size R l (.slice o len cap)) (hn : n ≤ len) : SlC w B size R (l.take n) (.slice o n cap) := by
  obtain ⟨o', len', cap', he, h1, h2, h3, h4⟩ := h
  simp only [Value.slice.injEq] at he
  obtain ⟨rfl, rfl, rfl⟩ := he
  refine ⟨o, n, cap, rfl, by rw [List.length_take]; omega, by omega, h3, ?_⟩
  cases o with
  | none => exact ⟨by rw [h4.1]; simp, h4.2⟩
  | some a =>
    refine ⟨fun hl => h4.1 (fun e => hl (by rw [e]; simp)), fun i x hx => h4.2 i x ?_⟩
    rw [List.getElem?_take] at hx
    split at hx
    · exact hx
    · cases hx
theorem SlC.drops {α : Type} {w : World} {B size : Nat} {R : α → List Value → Prop} {l : List α} {b off len cap n : Nat} (h : SlC w B size R l (.slice (some ⟨b, off, none⟩) len cap)) (hn : n ≤ len) : SlC w B size R (l.drop n) (.slice (some ⟨b, off + n * size, none⟩) (len - n) (cap - n)) := by
  obtain ⟨o', len', cap', he, h1, h2, h3, h4⟩ := h
  simp only [Value.slice.injEq] at he
  obtain ⟨rfl, rfl, rfl⟩ := he
  refine ⟨_, len - n, cap - n, rfl, by rw [List.length_drop]; omega, by omega, by omega, fun hl => ⟨rfl, (h4.1 (fun e => hl (by rw [e]; simp))).2⟩, fun i x hx => ?_⟩
  rw [List.getElem?_drop] at hx
  obtain ⟨cs, g1, g2, g3⟩ := h4.2 (n + i) x hx
  refine ⟨cs, g1, fun j u hj => ?_, g3⟩
  have := g2 j u hj
  rw [show off + n * size + i * size + j = off + (n + i) * size + j by rw [Nat.add_mul]; omega]
  exact this

set_option maxHeartbeats 2000000 in
set_option maxRecDepth 100000 in
theorem procedures1_to (o n : Int) (vs ts : Value) (ov ot : Option Addr) (lv cv lt ct : Nat) (hv : vs = .slice ov lv cv) (ht : ts = .slice ot lt ct) (pb : Nat) (w : World) (hp : BoxL w pb 3 [.int .i64 19]) :
    Calls Tryz.prog 142 #[.agg #[.int .i64 o, .int .i64 n, vs, ts], .pointer (some ⟨pb, 0, none⟩)] w fun e w' => e = .returned (.bool (o != 19)) ∧ Below w.heap.size w w' := by
  subst hv ht
  have p0 := hp.cell 0 rfl
  have pl := hp.lt
  clear hp
  by_cases h : o = 19
  · subst h
    go_enter Tryz.func142, Tryz.ntmps142
    go_wp2_with fail
    go_ret
    exact ⟨rfl, Below.one w _⟩
  · have f0 : (o != 19) = true := by simpa using h
    go_enter Tryz.func142, Tryz.ntmps142
    go_wp2_with fail
    go_ret
    exact ⟨by rw [f0]; rfl, Below.one w _⟩

set_option maxHeartbeats 2000000 in
set_option maxRecDepth 100000 in
/-- Are all terms of a Fix closures? -/
theorem procedures_any (l : List Trm) (sl : Value) (B cb : Nat) (nc nk size : Int) (fr : Bool) (bb : Nat) (w : World) (hv : TrmS w B l sl) (hB : B ≤ w.heap.size) (hc : BoxL w cb 103 [.int .i64 3, .int .i64 nc, .int .i64 nk, .bool fr, .int .i64 size, .map (some bb)]) :
    Calls Tryz.prog 107 #[.pointer (some ⟨cb, 0, none⟩), sl] w fun e w' => e = .returned (.bool (l.all fun x => x.op == 19)) ∧ Below w.heap.size w w' := by
  obtain ⟨r, hr⟩ : ∃ r, (l.all fun x => x.op == 19) = r := ⟨_, rfl⟩
  rw [hr]
  have HR := Lib.hid hr
  obtain ⟨W1, hW1⟩ : ∃ W1, w.alloc (.cells #[.int .i64 19] 3) = W1 := ⟨_, rfl⟩
  have HW := Lib.hid hW1
  have HB1 := Lib.hid (show Below w.heap.size w W1 from by rw [← hW1]; exact Below.one w _)
  have HP := Lib.hid (show BoxL W1 w.heap.size 3 [.int .i64 19] from by rw [← hW1]; exact BoxL.new rfl _ _)
  have HS := Lib.hid (TrmS.kept hv (HB1.out.mono hB))
  obtain ⟨o, len, cap, rfl, h1, h2, h3⟩ := SlC.slice hv
  have hbw : B ≤ W1.heap.size := Nat.le_trans hB HB1.out.size
  have HC := Lib.hid (containsT_S 142 #[.pointer (some ⟨w.heap.size, 0, none⟩)] l (.slice o len cap) B W1 (fun j W => (l.take j).all (fun x => x.op == 19) = true ∧ Below W1.heap.size W1 W) (fun W => r = false ∧ Below W1.heap.size W1 W) HS.out (fun _ _ => rfl) (fun j W h => h.2.mono hbw) ⟨by simp, Below.refl _ _⟩ (fun j x hx c0 c1 c2 c3 W ht hst => by
    obtain ⟨op, n, v, t⟩ := x
    obtain ⟨vs, ts, he, _, _, hvs, hts⟩ := trmR_iff.1 ht
    simp only [List.cons.injEq, and_true] at he
    obtain ⟨rfl, rfl, rfl, rfl⟩ := he
    obtain ⟨ov, lv, cv, rfl⟩ := hvs.form
    obtain ⟨ot, lt, ct, rfl⟩ := hts.form
    refine (procedures1_to op n _ _ ov ot lv cv lt ct rfl rfl w.heap.size W (HP.out.keep hst.2)).mono ?_
    rintro e W' ⟨rfl, hb⟩
    refine ⟨_, rfl, fun h => ⟨?_, Below.next hst.2 hb⟩, fun h => ⟨?_, Below.next hst.2 hb⟩⟩
    · rw [← HR.out]
      rw [List.all_eq_false]
      exact ⟨_, List.mem_of_getElem? hx, by simpa [Trm.op] using h⟩
    · rw [List.take_add_one, hx, List.all_append, hst.1]
      simpa [Trm.op] using h))
  have c0 := (hc.keep (Below.one w (.cells #[.int .i64 4] 3))).cell 0 rfl
  have cl := hc.lt
  clear hr hv hc hW1 h1 h2 h3
  go_enter Tryz.func107, Tryz.ntmps107
  go_upto_region 4 with fail
  rw [HW.out]
  go_wp2_with fail
  refine HC.out.mono ?_
  rintro e w1 ⟨c, rfl, h1, h2⟩
  have H1 := Lib.hid h1
  have H2 := Lib.hid h2
  clear h1 h2
  cases c with
  | true =>
    go_wp2_with fail
    go_ret
    obtain ⟨h0, hb⟩ := H1.out trivial
    subst h0
    exact ⟨rfl, HB1.out.trans (hb.mono HB1.out.size)⟩
  | false =>
    go_wp2_with fail
    go_ret
    have h := H2.out trivial
    rw [List.take_of_length_le (Nat.le_refl _), HR.out] at h
    obtain ⟨h0, hb⟩ := h
    subst h0
    exact ⟨rfl, HB1.out.trans (hb.mono HB1.out.size)⟩

set_option maxHeartbeats 2000000 in
set_option maxRecDepth 100000 in
/-- What right defers: the variables leave the scope. -/
theorem right1_deferred (op n : Int) (v : List Int) (ov ot : Option Addr) (lv cv lt ct : Nat) (B tb qb sb m : Nat) (g : Int → Bool) (w : World) (hv : SlC w B 1 IntR v (.slice ov lv cv)) (hB : B ≤ w.heap.size) (hsB : B ≤ sb)
    (ht : BoxL w tb 41 [.int .i64 op, .int .i64 n, .slice ov lv cv, .slice ot lt ct]) (hq : BoxL w qb 101 [.map (some sb)]) (hm : MapVB w sb m g) :
    CallsD Tryz.prog 104 #[.pointer (some ⟨tb, 0, none⟩), .pointer (some ⟨qb, 0, none⟩)] .returning w fun e u' w' => u' = .returning ∧ (e = .returned (.tuple #[]) ∧ MapVB w' sb m (fun x => g x && !v.contains x) ∧ Turned (fun b => b = sb) w w') := by
  obtain ⟨hlen, hcap, hmax⟩ := hv.lens
  have HV := Lib.hid hv
  have HL := Lib.hid hlen
  have HT := Lib.hid ht
  have HQ := Lib.hid hq
  have HM := Lib.hid hm
  have hts : tb ≠ sb := map_box_ne hm ht
  have hqs : qb ≠ sb := map_box_ne hm hq
  have t2 := ht.cell 2 rfl
  have tl := ht.lt
  clear hv hlen ht hq hm
  go_enter_d Tryz.func104, Tryz.ntmps104
  go_wp2_with fail
  go_loopg [7] lv (fun G i wr => ∃ (j : Nat), G = lv - j ∧ i = .int .i64 j ∧ j ≤ lv ∧ Hid (MapVB wr sb m (fun x => g x && !(v.take j).contains x)) ∧ Hid (Turned (fun b => b = sb) w wr))
  case atStart => exact ⟨0, rfl, rfl, by omega, Lib.hid (by simpa using HM.out), Lib.hid (Turned.refl _ _)⟩
  case round =>
    obtain ⟨j, rfl, rfl, hj, HA, HTU⟩ := hrel
    by_cases hjl : j < lv
    · obtain ⟨x, hx⟩ : ∃ x, v[j]? = some x := ⟨_, List.getElem?_eq_getElem (by rw [← HL.out]; exact hjl)⟩
      obtain ⟨b, off, cs, ho, _, hcl, hcell, hir⟩ := HV.out.at (HTU.out.below (fun b hb => by rw [hb]; exact hsB) hB) hx
      subst ho
      obtain ⟨rfl, hxi⟩ := hir
      have e0 := hcell 0 _ rfl
      simp only [Nat.add_zero, Nat.mul_one] at e0
      have HTK := Lib.hid (show v.take (j + 1) = v.take j ++ [x] by rw [List.take_add_one, hx]; rfl)
      have HI := Lib.hid hxi
      have q0 := (HTU.out.box HQ.out hqs).cell 0 rfl
      have ql := (HTU.out.box HQ.out hqs).lt
      clear hx hcell hxi
      go_wp2_with (at_delete; refine wpList_delVB rfl _ _ rfl sb m _ rfl HA.out x rfl HI.out ?_; intro w1 hm1 hg1; have HM1 := Lib.hid hm1; have HG1 := Lib.hid hg1; clear hm1 hg1)
      go_roundg (lv - (j + 1))
      case measure => omega
      case rel =>
        refine ⟨j + 1, rfl, by go_num, by omega, Lib.hid ?_, Lib.hid (HTU.out.next (Turned.grown HG1.out (fun b hb => by simpa using hb.symm)))⟩
        have e : (fun y => g y && !(v.take (j + 1)).contains y) = fun y => if y = x then false else (g y && !(v.take j).contains y) := by
          funext y
          rw [HTK.out]
          by_cases h : y = x
          · simp [h]
          · simp [h]
        rw [e]
        exact HM1.out
    · obtain rfl : j = lv := by omega
      have HE := Lib.hid (show v.take j = v from List.take_of_length_le (by rw [← HL.out]; exact Nat.le_refl _))
      have HM2 := HA.out
      rw [HE.out] at HM2
      have HM3 := Lib.hid HM2
      clear HM2
      go_wp2_with fail
      go_end0
      exact ⟨rfl, HM3.out, HTU.out⟩
end Go.Proofs.YtigkhmppnnljiaaGreatDoor

namespace Go.Proofs.YtigkhmppnnljiaaGreatDoor
namespace Trm
mutual
/-- All variables greater by k. -/
def shift (r : Int → Int) : Trm → Trm
  | mk op n v t => mk op (if op = 1 ∨ op = 2 ∨ op = 14 then r n else n) (v.map r) (shiftL r t)
def shiftL (r : Int → Int) : List Trm → List Trm
  | [] => []
  | x :: l => shift r x :: shiftL r l
end
theorem shiftL_eq (r : Int → Int) : ∀ l : List Trm, shiftL r l = l.map (shift r)
  | [] => rfl
  | x :: l => by rw [shiftL, shiftL_eq r l]; rfl
theorem shift_op (r : Int → Int) : ∀ x : Trm, (shift r x).op = x.op
  | mk op n v t => by rw [shift]; rfl
theorem shift_n (r : Int → Int) : ∀ x : Trm, (shift r x).n = if x.op = 1 ∨ x.op = 2 ∨ x.op = 14 then r x.n else x.n
  | mk op n v t => by rw [shift]; rfl
mutual
theorem shift_all (r : Int → Int) : ∀ x : Trm, (shift r x).all = x.all
  | mk op n v t => by rw [shift, all, all, shiftL_all r t]
theorem shiftL_all (r : Int → Int) : ∀ l : List Trm, allL (shiftL r l) = allL l
  | [] => by rw [shiftL]
  | x :: l => by rw [shiftL, allL, allL, shift_all r x, shiftL_all r l]
end
mutual
/-- A Fix's parts are closures, one for each variable. -/
def cl : Trm → Bool
  | mk op _ v t => (decide (op ≠ 9) || decide (t.length = v.length + 1)) && clL op t
def clL : Int → List Trm → Bool
  | _, [] => true
  | _, [x] => cl x
  | op, x :: y :: l => (decide (op ≠ 9) || decide (x.op = 19)) && (cl x && clL op (y :: l))
end
mutual
theorem cl_of_wf {nc nk : Int} {fr : Bool} : ∀ (x : Trm) (sc : Int → Bool), wf nc nk fr x sc = true → cl x = true
  | mk op n v t, sc, h => by
    rw [wf] at h
    simp only [Bool.and_eq_true] at h
    obtain ⟨_, h2, _, h4⟩ := h
    rw [cl, clL_of_wf op v t sc h4, Bool.and_true]
    by_cases h9 : op = 9
    · subst h9
      simpa [countsB] using h2
    · simp [h9]
theorem clL_of_wf {nc nk : Int} {fr : Bool} : ∀ (op : Int) (v : List Int) (t : List Trm) (sc : Int → Bool), wfL nc nk fr op v t sc = true → clL op t = true
  | _, _, [], _, _ => by rw [clL]
  | _, v, [x], sc, h => by
    rw [wfL] at h
    rw [clL]
    exact cl_of_wf x _ h
  | op, v, x :: y :: l, sc, h => by
    rw [wfL] at h
    rw [Bool.and_eq_true] at h
    obtain ⟨h1, h2⟩ := h
    rw [clL, clL_of_wf op v (y :: l) sc h2, Bool.and_true]
    by_cases h9 : op = 9
    · rw [if_pos h9, Bool.and_eq_true] at h1
      rw [cl_of_wf x _ h1.2, Bool.and_true]
      simp only [Bool.or_eq_true]
      exact .inr h1.1
    · rw [if_neg h9] at h1
      rw [cl_of_wf x _ h1, Bool.and_true]
      simp [h9]
end
theorem clL_mem : ∀ {op : Int} {l : List Trm}, clL op l = true → ∀ x ∈ l, cl x = true
  | _, [], _, x, h => by simp at h
  | _, [y], h, x, hx => by
    rw [List.mem_singleton.1 hx]
    rwa [clL] at h
  | op, y :: z :: l, h, x, hx => by
    rw [clL] at h
    simp only [Bool.and_eq_true] at h
    rcases List.mem_cons.1 hx with rfl | hx
    · exact h.2.1
    · exact clL_mem h.2.2 x hx
end Trm

namespace MSt
/-- The variables are called otherwise. -/
def sh (r : Int → Int) (s : MSt) : MSt := { s with vars := s.vars.map fun p => (r p.1, p.2) }
theorem sh_bind (r : Int → Int) (s : MSt) (v q : List Int) : (s.sh r).bind (v.map r) q = (s.bind v q).sh r := by
  simp only [bind, sh, List.map_append, MSt.mk.injEq, true_and]
  congr 1
  rw [List.zip_map_left]
  rfl
end MSt

namespace Mk
theorem any_sh (r : Int → Int) (hr : ∀ a b, r a = r b → a = b) (x : Int) (l : List (Int × Int)) : ((l.map fun p => (r p.1, p.2)).any fun q => q.1 == r x) = l.any fun q => q.1 == x := by
  rw [List.any_map]
  congr 1
  funext q
  simp only [Function.comp]
  rw [Bool.eq_iff_iff, beq_iff_eq, beq_iff_eq]
  exact ⟨fun e => hr _ _ e, fun e => by rw [e]⟩
theorem lkL_sh (r : Int → Int) (hr : ∀ a b, r a = r b → a = b) (x : Int) : ∀ l : List (Int × Int), lkL (l.map fun p => (r p.1, p.2)) (r x) = lkL l x
  | [] => rfl
  | p :: l => by
    rw [List.map_cons, lkL, lkL, any_sh r hr, lkL_sh r hr x l]
    by_cases h : p.1 = x
    · simp [h]
    · have h2 : ¬ r p.1 = r x := fun e => h (hr _ _ e)
      simp [h, h2]
/-- A term's maker is the same. -/
def ShI (r : Int → Int) (x : Trm) : Prop := ∀ (d : Int) (e : Bool) (s : MSt), into lkL (x.shift r) d e (s.sh r) = (into lkL x d e s).sh r
theorem had_sh {r : Int → Int} (hr : ∀ a b, r a = r b → a = b) {x : Trm} (hx : ShI r x) (s : MSt) : hadW lkL (x.shift r).op (x.shift r).n (into lkL (x.shift r)) (s.sh r) = ((hadW lkL x.op x.n (into lkL x) s).1, (hadW lkL x.op x.n (into lkL x) s).2.sh r) := by
  rw [Trm.shift_op, Trm.shift_n]
  unfold hadW
  by_cases h : x.op = 1
  · rw [if_pos h, if_pos h, if_pos (.inl h)]
    show (lkL (s.vars.map fun p => (r p.1, p.2)) (r x.n), _) = _
    rw [lkL_sh r hr]
  · rw [if_neg h, if_neg h]
    show (s.regs, into lkL (x.shift r) s.regs false (s.fresh.sh r)) = _
    rw [hx]
theorem allT_sh {r : Int → Int} (hr : ∀ a b, r a = r b → a = b) : ∀ (l : List Trm), (∀ x ∈ l, ShI r x) → ∀ s : MSt, allT lkL (Trm.shiftL r l) (s.sh r) = ((allT lkL l s).1, (allT lkL l s).2.sh r)
  | [], _, s => by rw [Trm.shiftL, allT, allT]
  | x :: l, h, s => by
    rw [Trm.shiftL, allT, allT, had_sh hr (h x (by simp)) s]
    dsimp only
    rw [allT_sh hr l (fun y hy => h y (by simp [hy])) _]
theorem ite_sh {r : Int → Int} {c : Prop} [Decidable c] (a b : MSt) : (if c then a.sh r else b.sh r) = (if c then a else b).sh r := by split <;> rfl
theorem strict_sh (r : Int → Int) (op n d : Int) (l : List Int) (s : MSt) : strict op n d l (s.sh r) = (strict op n d l s).sh r := by
  unfold strict
  repeat' (rw [← ite_sh])
  rfl
theorem strict_sh' (r : Int → Int) (op n d : Int) (l : List Int) (s : MSt) : strict op (if op = 1 ∨ op = 2 ∨ op = 14 then r n else n) d l s = strict op n d l s := by
  by_cases h : op = 1 ∨ op = 2 ∨ op = 14
  · rcases h with rfl | rfl | rfl <;> rfl
  · rw [if_neg h]
theorem ended_sh (r : Int → Int) (op n : Int) (l : List Int) (s : MSt) : ended op n l (s.sh r) = (ended op n l s).sh r := by
  unfold ended
  repeat' (rw [← ite_sh])
  rfl
theorem endsB_sh (r : Int → Int) (op n : Int) : endsB op (if op = 1 ∨ op = 2 ∨ op = 14 then r n else n) = endsB op n := by
  by_cases h : op = 1 ∨ op = 2 ∨ op = 14
  · rcases h with rfl | rfl | rfl <;> simp [endsB]
  · rw [if_neg h]
theorem ended_sh' (r : Int → Int) (op n : Int) (l : List Int) (s : MSt) (h : endsB op n = true) : ended op (if op = 1 ∨ op = 2 ∨ op = 14 then r n else n) l s = ended op n l s := by
  have : ¬ (op = 1 ∨ op = 2 ∨ op = 14) := by
    rintro (rfl | rfl | rfl) <;> simp [endsB] at h
  rw [if_neg this]
theorem thens_sh {r : Int → Int} {f g f' g' : Int → Bool → MSt → MSt} (hf : ∀ d e (s : MSt), f' d e (s.sh r) = (f d e s).sh r) (hg : ∀ d e (s : MSt), g' d e (s.sh r) = (g d e s).sh r) (c d : Int) (e : Bool) (s : MSt) : thens f' g' c d e (s.sh r) = (thens f g c d e s).sh r := by
  unfold thens
  dsimp only
  rw [show (s.sh r).put ⟨16, 0, c, 0, []⟩ = (s.put ⟨16, 0, c, 0, []⟩).sh r from rfl, hf]
  cases e with
  | true =>
    simp only [if_true]
    rw [show ((f d true (s.put ⟨16, 0, c, 0, []⟩)).sh r).setB (s.sh r).code.length ((f d true (s.put ⟨16, 0, c, 0, []⟩)).sh r).len = ((f d true (s.put ⟨16, 0, c, 0, []⟩)).setB s.code.length (f d true (s.put ⟨16, 0, c, 0, []⟩)).len).sh r from rfl, hg]
  | false =>
    simp only [Bool.false_eq_true, if_false]
    rw [show (((f d false (s.put ⟨16, 0, c, 0, []⟩)).sh r).put ⟨15, 0, 0, 0, []⟩).setB (s.sh r).code.length (((f d false (s.put ⟨16, 0, c, 0, []⟩)).sh r).put ⟨15, 0, 0, 0, []⟩).len = ((((f d false (s.put ⟨16, 0, c, 0, []⟩))).put ⟨15, 0, 0, 0, []⟩).setB s.code.length ((f d false (s.put ⟨16, 0, c, 0, []⟩)).put ⟨15, 0, 0, 0, []⟩).len).sh r from rfl, hg]
    rfl
theorem choice_sh {r : Int → Int} (hr : ∀ a b, r a = r b → a = b) : ∀ (l : List Trm), (∀ x ∈ l, ShI r x) → ∀ (d : Int) (e : Bool) (s : MSt), choice lkL (Trm.shiftL r l) d e (s.sh r) = (choice lkL l d e s).sh r
  | [a, b, c], h, d, e, s => by
    rw [Trm.shiftL, Trm.shiftL, Trm.shiftL, Trm.shiftL, choice, choice, had_sh hr (h a (by simp)) s]
    dsimp only
    exact thens_sh (fun d e s => h b (by simp) d e s) (fun d e s => h c (by simp) d e s) _ _ _ _
  | [], _, d, e, s => by rw [Trm.shiftL, choice, choice] <;> simp
  | [a], _, d, e, s => by rw [Trm.shiftL, Trm.shiftL, choice, choice] <;> simp
  | [a, b], _, d, e, s => by rw [Trm.shiftL, Trm.shiftL, Trm.shiftL, choice, choice] <;> simp
  | a :: b :: c :: x :: l, _, d, e, s => by rw [Trm.shiftL, Trm.shiftL, Trm.shiftL, Trm.shiftL, choice, choice] <;> simp
theorem seqs_sh {r : Int → Int} (hr : ∀ a b, r a = r b → a = b) : ∀ (l : List Trm), (∀ x ∈ l, ShI r x) → ∀ (d : Int) (e : Bool) (s : MSt), seqs lkL (Trm.shiftL r l) d e (s.sh r) = (seqs lkL l d e s).sh r
  | [], _, d, e, s => by rw [Trm.shiftL, seqs, seqs]
  | [x], h, d, e, s => by
    rw [Trm.shiftL, Trm.shiftL, seqs, seqs]
    exact h x (by simp) d e s
  | x :: y :: l, h, d, e, s => by
    rw [Trm.shiftL, Trm.shiftL, seqs, seqs, had_sh hr (h x (by simp)) s]
    dsimp only
    have := seqs_sh hr (y :: l) (fun z hz => h z (by simp [hz])) d e (hadW lkL x.op x.n (into lkL x) s).2
    rwa [Trm.shiftL] at this
theorem lets_sh {r : Int → Int} (hr : ∀ a b, r a = r b → a = b) : ∀ (l : List Trm), (∀ x ∈ l, ShI r x) → ∀ (v rs : List Int) (d : Int) (e : Bool) (s : MSt), lets lkL (Trm.shiftL r l) (v.map r) rs d e (s.sh r) = (lets lkL l v rs d e s).sh r
  | [], _, v, rs, d, e, s => by rw [Trm.shiftL, lets, lets]
  | [x], h, v, rs, d, e, s => by
    rw [Trm.shiftL, Trm.shiftL, lets, lets, MSt.sh_bind]
    exact h x (by simp) d e _
  | x :: y :: l, h, v, rs, d, e, s => by
    rw [Trm.shiftL, Trm.shiftL, lets, lets, had_sh hr (h x (by simp)) s]
    dsimp only
    have := lets_sh hr (y :: l) (fun z hz => h z (by simp [hz])) v (rs ++ [(hadW lkL x.op x.n (into lkL x) s).1]) d e (hadW lkL x.op x.n (into lkL x) s).2
    rwa [Trm.shiftL] at this
theorem fix1_sh {r : Int → Int} : ∀ (v : List Int) (t : List Trm), t.length = v.length + 1 → Trm.clL 9 t = true → ∀ s : MSt, fix1 (v.map r) (Trm.shiftL r t) (s.sh r) = (fix1 v t s).sh r
  | [], t, _, _, s => by
    rw [List.map_nil, fix1, fix1] <;> simp
  | v :: vs, [], h, _, s => by simp at h
  | v :: vs, [x], h, _, s => by simp at h
  | v :: vs, x :: y :: l, h, hc, s => by
    rw [Trm.clL] at hc
    simp only [Bool.and_eq_true] at hc
    have hx : x.op = 19 := by simpa using hc.1
    have hn : (x.shift r).n = x.n := by rw [Trm.shift_n, if_neg (by omega)]
    rw [List.map_cons, Trm.shiftL, fix1, fix1, hn, ← fix1_sh vs (y :: l) (by simpa using h) hc.2.2]
    congr 1
    show ((s.fresh.sh r).bind [r v] [s.regs]).put _ = (((s.fresh.bind [v] [s.regs])).put _).sh r
    rw [show [r v] = [v].map r from rfl, MSt.sh_bind]
    rfl
theorem fixs_sh {r : Int → Int} (hr : ∀ a b, r a = r b → a = b) : ∀ (l : List Trm), (∀ x ∈ l, ShI r x ∧ ∀ y ∈ x.t, ShI r y) → ∀ (v : List Int) (d : Int) (e : Bool) (s : MSt), l.length = v.length + 1 → fixs lkL (Trm.shiftL r l) (v.map r) d e (s.sh r) = (fixs lkL l v d e s).sh r
  | [], _, v, d, e, s, h => by simp at h
  | [x], h, v, d, e, s, _ => by
    rw [Trm.shiftL, Trm.shiftL, fixs, fixs]
    exact (h x (by simp)).1 d e s
  | .mk o m w t :: y :: l, h, [], d, e, s, hl => by simp at hl
  | .mk o m w t :: y :: l, h, v0 :: v, d, e, s, hl => by
    rw [Trm.shiftL, Trm.shiftL, Trm.shift, fixs, fixs, allT_sh hr t (fun z hz => (h (.mk o m w t) (by simp)).2 z hz) s]
    dsimp only
    have := fixs_sh hr (y :: l) (fun z hz => h z (List.mem_cons_of_mem _ hz)) v d e ((allT lkL t s).2.put ⟨8, 0, lkL (allT lkL t s).2.vars v0, 0, (allT lkL t s).1⟩) (by simpa using hl)
    rw [Trm.shiftL] at this
    simp only [List.map_cons, List.tail_cons, List.headD_cons]
    rw [← this]
    congr 1
    show ((allT lkL t s).2.sh r).put ⟨8, 0, lkL ((allT lkL t s).2.vars.map fun p => (r p.1, p.2)) (r v0), 0, (allT lkL t s).1⟩ = _
    rw [lkL_sh r hr]
    rfl
theorem into_sh (r : Int → Int) (hr : ∀ a b, r a = r b → a = b) : ∀ (N : Nat) (x : Trm), x.all ≤ N → x.cl = true → ShI r x
  | 0, x, h, _ => absurd h (by have := x.all_pos; omega)
  | N + 1, .mk op n v t, hN, hc => by
    intro d e s
    rw [Trm.cl] at hc
    simp only [Bool.and_eq_true, Bool.or_eq_true, decide_eq_true_eq] at hc
    obtain ⟨hc1, hc2⟩ := hc
    have ht : ∀ x ∈ t, ShI r x ∧ ∀ y ∈ x.t, ShI r y := fun x hx => by
      have h1 := Trm.all_mem (o := op) (n := n) (v := v) hx
      have h2 := Trm.clL_mem hc2 x hx
      refine ⟨into_sh r hr N x (by omega) h2, fun y hy => ?_⟩
      obtain ⟨o', n', v', t'⟩ := x
      have h3 := Trm.all_mem (o := o') (n := n') (v := v') (t := t') hy
      rw [Trm.cl, Bool.and_eq_true] at h2
      exact into_sh r hr N y (by have h4 : (Trm.mk o' n' v' t').all < (Trm.mk op n v t).all := h1; omega) (Trm.clL_mem h2.2 y hy)
    have ht1 : ∀ x ∈ t, ShI r x := fun x hx => (ht x hx).1
    rw [Trm.shift, into, into]
    by_cases h3 : op = 3
    · rw [if_pos h3, if_pos h3]
      exact choice_sh hr t ht1 d e s
    rw [if_neg h3, if_neg h3]
    by_cases h6 : op = 6
    · rw [if_pos h6, if_pos h6]
      exact seqs_sh hr t ht1 d e s
    rw [if_neg h6, if_neg h6]
    by_cases h8 : op = 8
    · rw [if_pos h8, if_pos h8]
      exact lets_sh hr t ht1 v [] d e s
    rw [if_neg h8, if_neg h8]
    by_cases h9 : op = 9
    · rw [if_pos h9, if_pos h9]
      subst h9
      have hl : t.length = v.length + 1 := by simpa using hc1
      rw [fix1_sh v t hl hc2]
      exact fixs_sh hr t ht v d e _ hl
    rw [if_neg h9, if_neg h9, endsB_sh]
    cases e with
    | true =>
      simp only [if_true]
      by_cases hb : endsB op n = true
      · rw [if_pos hb, if_pos hb, allT_sh hr t ht1 s]
        dsimp only
        rw [ended_sh' r op n _ _ hb, ended_sh]
      · rw [if_neg hb, if_neg hb]
        by_cases h1 : op = 1
        · rw [if_pos h1, if_pos h1, if_pos (.inl h1)]
          show (s.sh r).put ⟨22, 0, lkL (s.vars.map fun p => (r p.1, p.2)) (r n), 0, []⟩ = _
          rw [lkL_sh r hr]
          rfl
        · rw [if_neg h1, if_neg h1]
          show (strict op _ s.regs (allT lkL (Trm.shiftL r t) (s.fresh.sh r)).1 (allT lkL (Trm.shiftL r t) (s.fresh.sh r)).2).put _ = _
          rw [allT_sh hr t ht1 s.fresh]
          dsimp only
          rw [strict_sh', strict_sh]
          rfl
    | false =>
      simp only [Bool.false_eq_true, if_false]
      by_cases h1 : op = 1
      · rw [if_pos h1, if_pos h1, if_pos (.inl h1)]
        show (s.sh r).put ⟨1, d, lkL (s.vars.map fun p => (r p.1, p.2)) (r n), 0, []⟩ = _
        rw [lkL_sh r hr]
        rfl
      · rw [if_neg h1, if_neg h1, allT_sh hr t ht1 s]
        dsimp only
        rw [strict_sh', strict_sh]
end Mk

/-- A code whose variables are greater by k. -/
def Cod.shift (r : Int → Int) (c : Cod) : Cod := ⟨c.v.map r, c.rest, c.body.shift r⟩
theorem proc_shift (r : Int → Int) (hr : ∀ a b, r a = r b → a = b) (c : Cod) (h : c.body.cl = true) : Mk.proc Mk.lkL (c.shift r) = Mk.proc Mk.lkL c := by
  unfold Mk.proc Cod.shift
  dsimp only
  have hs : (⟨[], ((c.v.map r).length : Int), (c.v.map r).zip ((List.range (c.v.map r).length).map fun (i : Nat) => (i : Int))⟩ : MSt) = MSt.sh r ⟨[], c.v.length, c.v.zip ((List.range c.v.length).map fun (i : Nat) => (i : Int))⟩ := by
    simp only [MSt.sh, List.length_map, MSt.mk.injEq, true_and]
    rw [List.zip_map_left]
    rfl
  rw [hs, Mk.into_sh r hr c.body.all c.body (Nat.le_refl _) h]
  simp only [List.length_map]
  rfl
/-- A module whose variables are greater by k. -/
def Mdl.shift (r : Int → Int) (m : Mdl) : Mdl := ⟨m.consts, m.codes.map (Cod.shift r), m.body.shift r⟩
theorem unit_shift {m : Mdl} (r : Int → Int) (hr : ∀ a b, r a = r b → a = b) (h : m.okB = true) : (m.shift r).unit Mk.lkL = m.unit Mk.lkL := by
  rw [Mdl.okB] at h
  simp only [Bool.and_eq_true] at h
  obtain ⟨_, ⟨h1, _⟩, h3⟩ := h
  have hb := proc_shift r hr ⟨[], false, m.body⟩ (Trm.cl_of_wf m.body _ h1)
  unfold Mdl.unit Mdl.shift
  dsimp only
  rw [show (⟨[], false, m.body.shift r⟩ : Cod) = Cod.shift r ⟨[], false, m.body⟩ from rfl, hb, List.map_map]
  congr 2
  apply List.map_congr_left
  intro c hc
  exact proc_shift r hr c (Trm.cl_of_wf _ _ (Mdl.codes_each h3 c hc).1)
end Go.Proofs.YtigkhmppnnljiaaGreatDoor

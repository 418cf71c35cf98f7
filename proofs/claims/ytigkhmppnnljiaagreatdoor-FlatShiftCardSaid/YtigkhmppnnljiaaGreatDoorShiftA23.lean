/-
  What the proofs lean on: Lay, ChkE, TurnR, CloneC, PAlone.
-/
import Derived.Deep.RegionLaw
import Derived.Deep.AppendLies
import Derived.BigQuiet
import Derived.Test.YtigkhmppnnljiaaGreatDoorShiftA09
import Derived.Test.YtigkhmppnnljiaaGreatDoorShiftA10
import Derived.Test.YtigkhmppnnljiaaGreatDoorShiftA18
import Derived.Test.YtigkhmppnnljiaaGreatDoorShiftA20
import Derived.Test.YtigkhmppnnljiaaGreatDoorShiftA22
namespace Go.Proofs.YtigkhmppnnljiaaGreatDoor
open Go Go.RowKit

theorem step_append_lay {W : World} {ops : Array Oper} {o : Oper} {a : Act} {K : Act → World → Prop} {Q : Exit → Act → World → Prop} {E : Prop} (hgd : o.guard = none) (s x : Operand)
    (ho : o.op = .call { callee := .builtin .append, args := #[s, x], argTypes := #[28, 28] }) (base k mb : Nat) (cv : Value) (xs rs : List Value) (p d q b : Int) (ol : Option Addr) (ll cl : Nat) (hs : a.eval s = cv)
    (hown : Hid (W.ownsRow base 34 5 cv k xs)) (hm : Hid (BoxL W mb 110 (cv :: rs))) (pb : Nat) (hp : Hid (BoxL W pb 107 [.pointer (some ⟨mb, 0, none⟩)])) (hx : a.eval x = .slice (some ⟨W.heap.size, 0, none⟩) 1 1) (hk : k ≤ 1000000) (hb : base ≤ W.heap.size)
    (h : ∀ g cap w', Hid (w'.ownsRow base 34 5 (.slice (some ⟨g, 0, none⟩) (k + 1) cap) (k + 1) (xs ++ [.int .i64 p, .int .i64 d, .int .i64 q, .int .i64 b, .slice ol ll cl])) → Hid ((W.alloc (.cells #[.int .i64 p, .int .i64 d, .int .i64 q, .int .i64 b, .slice ol ll cl] 34)).grownBy w' cv.ownBlock) → Hid (cv.ownBlock = some g ∨ g = W.heap.size + 1) →
      Hid (BoxL w' mb 110 (cv :: rs)) → w'.cell? ⟨mb, 0, none⟩ = some cv → w'.frozen? ⟨mb, 0, none⟩ = false → mb < w'.heap.size → w'.cell? ⟨pb, 0, none⟩ = some (.pointer (some ⟨mb, 0, none⟩)) → pb < w'.heap.size → Hid (BoxL w' pb 107 [.pointer (some ⟨mb, 0, none⟩)]) → K (a.put o.dst (.slice (some ⟨g, 0, none⟩) (k + 1) cap)) w') :
    if Region.wanted o (yielded ops a.tmps) = true then Oper.wp Tryz.prog o a (W.alloc (.cells #[.int .i64 p, .int .i64 d, .int .i64 q, .int .i64 b, .slice ol ll cl] 34)).drew K Q else E := by
  have hw : Region.wanted o (yielded ops a.tmps) = true := by simp [Region.wanted, hgd]
  rw [if_pos hw]
  obtain ⟨i0, hi0, hz0, hz1, hz2⟩ := info_parts info_ins
  refine wp_append_lies _ s x 28 ho base 34 i0 (.agg #[.int .i64 0, .int .i64 0, .int .i64 0, .int .i64 0, .slice none 0 0]) 5 56 Tryz.underlying28 hi0 hz0 hz1 hz2 rfl (by decide) cv k xs hs (hown.out.alloc _) ⟨W.heap.size, 0, none⟩ 1 1 [.int .i64 p, .int .i64 d, .int .i64 q, .int .i64 b, .slice ol ll cl] hx rfl (new_cells W _ _) (by intro u hu; simp only [List.mem_cons, List.not_mem_nil, or_false] at hu; rcases hu with rfl | rfl | rfl | rfl | rfl <;> rfl) (by decide) (by unfold maxLen; omega) (by omega) (by show base ≤ (W.alloc _).heap.size; simp; omega) (W.heap.size + 1) (by show (W.alloc _).heap.size = _; simp) ?_
  intro g cap w' h1 h2 h3 _
  have h2' : (W.alloc (.cells #[.int .i64 p, .int .i64 d, .int .i64 q, .int .i64 b, .slice ol ll cl] 34)).grownBy w' cv.ownBlock := grown_drew h2
  have hbx : BoxL w' mb 110 (cv :: rs) := by
    refine (h2'.block mb (by rw [World.size_alloc]; have := hm.out.lt; omega) (fun e => ?_)).trans (hm.out.alloc _)
    obtain ⟨cs', f, hc⟩ := own_row hown.out mb e.symm
    rw [show W.heap[mb]? = _ from hm.out] at hc
    simp at hc
  have hpx : BoxL w' pb 107 [.pointer (some ⟨mb, 0, none⟩)] := by
    refine (h2'.block pb (by rw [World.size_alloc]; have := hp.out.lt; omega) (fun e => ?_)).trans (hp.out.alloc _)
    obtain ⟨cs', f, hc⟩ := own_row hown.out pb e.symm
    rw [show W.heap[pb]? = _ from hp.out] at hc
    simp at hc
  exact h g cap w' (Lib.hid h1) (Lib.hid h2') (Lib.hid h3) (Lib.hid hbx) (hbx.cell 0 rfl) (hbx.free 0) hbx.lt (hpx.cell 0 rfl) hpx.lt (Lib.hid hpx)

/-- What lay leaves. -/
def LayPost (base mb k : Nat) (r : Int) (mv cv : Value) (xs cs : List Value) (w : World) (e : Ending) (w' : World) : Prop :=
  ∃ g cap c, e = .returned (.func (.func 165) #[] #[.pointer (some ⟨w.heap.size, 0, none⟩), .pointer (some ⟨c, 0, none⟩)]) ∧ BoxL w' mb 110 [.slice (some ⟨g, 0, none⟩) (k + 1) cap, .int .i64 r, mv] ∧ w'.ownsRow base 34 5 (.slice (some ⟨g, 0, none⟩) (k + 1) cap) (k + 1) (xs ++ cs) ∧
    BoxL w' w.heap.size 107 [.pointer (some ⟨mb, 0, none⟩)] ∧ BoxL w' c 3 [.int .i64 k] ∧ w.heap.size ≤ c ∧ (cv.ownBlock = some g ∨ w.heap.size ≤ g) ∧ Turned (fun b => b = mb ∨ cv.ownBlock = some b) w w'
theorem lay_end {base mb k g cap : Nat} {r : Int} {mv cv : Value} {xs cs : List Value} {w W2 w5 : World} {X : Obj} (hb : Below w.heap.size w W2) (hg : (W2.alloc X).grownBy w5 cv.ownBlock) (he : cv.ownBlock = some g ∨ g = W2.heap.size + 1)
    (ho : w5.ownsRow base 34 5 (.slice (some ⟨g, 0, none⟩) (k + 1) cap) (k + 1) (xs ++ cs)) (hm5 : BoxL w5 mb 110 [cv, .int .i64 r, mv]) (hm : BoxL (w5.setCell ⟨mb, 0, none⟩ (.slice (some ⟨g, 0, none⟩) (k + 1) cap)) mb 110 [.slice (some ⟨g, 0, none⟩) (k + 1) cap, .int .i64 r, mv]) (hp : BoxL (w5.setCell ⟨mb, 0, none⟩ (.slice (some ⟨g, 0, none⟩) (k + 1) cap)) w.heap.size 107 [.pointer (some ⟨mb, 0, none⟩)]) :
    LayPost base mb k r mv cv xs cs w (.returned (.func (.func 165) #[] #[.pointer (some ⟨w.heap.size, 0, none⟩), .pointer (some ⟨w5.heap.size, 0, none⟩)])) ((w5.setCell ⟨mb, 0, none⟩ (.slice (some ⟨g, 0, none⟩) (k + 1) cap)).alloc (.cells #[.int .i64 k] 3)) := by
  have hz := hb.size
  have hz5 := hg.size
  rw [World.size_alloc] at hz5
  have hrow : (w5.setCell ⟨mb, 0, none⟩ (.slice (some ⟨g, 0, none⟩) (k + 1) cap)).ownsRow base 34 5 (.slice (some ⟨g, 0, none⟩) (k + 1) cap) (k + 1) (xs ++ cs) := ownsRow_set ho _ _ (fun q hq e => by
    obtain ⟨cs', f, hc⟩ := own_row ho q hq
    have e : q = mb := e
    rw [e, show w5.heap[mb]? = _ from hm5] at hc
    simp at hc)
  refine ⟨g, cap, w5.heap.size, rfl, hm.alloc _, hrow.alloc _, hp.alloc _, BoxL.new (by simp) _ _, by omega, he.imp id (fun e => by omega), hg.os.trans hb.os, hg.tape.trans hb.tape, hg.output.trans hb.output, by simp; omega, fun b hlt hS => ?_⟩
  refine (Below.heap_alloc _ _ b (by rw [World.size_setCell]; omega)).trans ((setCell_heap_other _ _ _ (fun e => hS (.inl e))).trans ((hg.block b (by rw [World.size_alloc]; omega) (fun e => hS (.inr e.symm))).trans ((Below.heap_alloc _ _ b (by omega)).trans (hb.block b hlt))))

set_option maxHeartbeats 2000000 in
set_option maxRecDepth 100000 in
/-- An instruction is laid; what is told lays its place to go on at. -/
theorem lay_any (base mb k : Nat) (r : Int) (mv cv : Value) (ov : Option Addr) (lv cv2 : Nat) (hcv : cv = .slice ov lv cv2) (xs : List Value) (p d q b : Int) (ol : Option Addr) (ll cl : Nat) (w : World)
    (hm : BoxL w mb 110 [cv, .int .i64 r, mv]) (hown : w.ownsRow base 34 5 cv k xs) (hk : k ≤ 1000000) (hb : base ≤ w.heap.size) :
    Calls Tryz.prog 143 #[.pointer (some ⟨mb, 0, none⟩), .agg #[.int .i64 p, .int .i64 d, .int .i64 q, .int .i64 b, .slice ol ll cl]] w (LayPost base mb k r mv cv xs [.int .i64 p, .int .i64 d, .int .i64 q, .int .i64 b, .slice ol ll cl] w) := by
  subst hcv
  obtain ⟨W2, hW2⟩ : ∃ W2, (w.alloc (.cells #[.pointer (some ⟨mb, 0, none⟩)] 107)).alloc (.cells #[.int .i64 p, .int .i64 d, .int .i64 q, .int .i64 b, .slice ol ll cl] 34) = W2 := ⟨_, rfl⟩
  have HWE := Lib.hid hW2
  have HB2 := Lib.hid (show Below w.heap.size w W2 from by rw [← hW2]; exact (Below.one w _).trans ((Below.one _ _).mono (by simp)))
  have BM := Lib.hid (show BoxL W2 w.heap.size 107 [.pointer (some ⟨mb, 0, none⟩)] from by rw [← hW2]; exact (BoxL.new rfl _ _).alloc _)
  have BI := Lib.hid (show BoxL W2 (w.heap.size + 1) 34 [.int .i64 p, .int .i64 d, .int .i64 q, .int .i64 b, .slice ol ll cl] from by rw [← hW2]; exact BoxL.new (by simp) _ _)
  have HM := Lib.hid (hm.keep HB2.out)
  have HO := Lib.hid (ownsRow_keep hown HB2.out)
  have hbs : base ≤ W2.heap.size := Nat.le_trans hb HB2.out.size
  clear hW2 hm hown hb
  go_enter Tryz.func143, Tryz.ntmps143
  go_upto_region 1 with fail
  rw [HWE.out]
  have m0 := BM.out.cell 0 rfl
  have hml := BM.out.lt
  have i0 := BI.out.cell 0 rfl
  have i1 := BI.out.cell 1 rfl
  have i2 := BI.out.cell 2 rfl
  have i3 := BI.out.cell 3 rfl
  have i4 := BI.out.cell 4 rfl
  have hil := BI.out.lt
  have x0 := HM.out.cell 0 rfl
  have hxl := HM.out.lt
  go_region_law (refine step_append_lay rfl (.tmp 10) (.tmp 12) rfl base k mb (.slice ov lv cv2) xs [.int .i64 r, mv] p d q b ol ll cl rfl HO HM w.heap.size BM rfl hk hbs ?_; intro g cap w5 HO5 HG5 HE5 HM5 z0 z1 z2 z3 z4 HP5)
  all_goals
    have hne : w.heap.size ≠ mb := HP5.out.ne HM5.out (by decide)
    have HM6 := Lib.hid (HM5.out.set 0 (.slice (some ⟨g, 0, none⟩) (k + 1) cap))
    have HP6 := Lib.hid (HP5.out.other ⟨mb, 0, none⟩ (.slice (some ⟨g, 0, none⟩) (k + 1) cap) hne)
    have y0 := HM6.out.cell 0 rfl
    have y1 := HM6.out.lt
    have y2 := HP6.out.cell 0 rfl
    have y3 := HP6.out.lt
    have HE := Lib.hid (lay_end HB2.out HG5.out HE5.out HO5.out HM5.out HM6.out HP6.out)
    clear z0 z1 z2 z3 z4 hne
    go_wp2_with fail
    go_ret
    exact HE.out
end Go.Proofs.YtigkhmppnnljiaaGreatDoor

namespace Go.Proofs.YtigkhmppnnljiaaGreatDoor
open Go Go.RowKit

/-- What right leaves where it says yes. -/
def GoodR (cb bb sb : Nat) (nc nk : Int) (fr : Bool) (size : Int) (l b : List Int) (sc : Int → Bool) (w' : World) : Prop := ∃ l', l'.Perm (l ++ b) ∧ ChkS w' cb bb sb nc nk fr size l' sc
/-- right, of a term. -/
def RightC (x : Trm) : Prop := ∀ (c0 c1 c2 c3 : Value) (B cb bb sb : Nat) (nc nk size : Int) (fr : Bool) (l : List Int) (sc : Int → Bool) (deep : Int) (W : World), TrmR W B x [c0, c1, c2, c3] → (∀ b, S3 cb bb sb b → B ≤ b) → B ≤ W.heap.size → ChkS W cb bb sb nc nk fr size l sc → (∀ v, sc v = true → v ∈ l) →
  0 ≤ size → size + x.all ≤ 20000 → 0 ≤ deep → deep + x.all ≤ 401 →
  Calls Tryz.prog 69 #[.pointer (some ⟨cb, 0, none⟩), .agg #[c0, c1, c2, c3], .map (some sb), .int .i64 deep] W (ChkPost cb bb sb nc nk fr (Trm.wf nc nk fr x sc && Trm.newB (fun _ => false) (l ++ x.bnd)) (GoodR cb bb sb nc nk fr (size + x.all) l x.bnd sc) W)

/-- What a search leaves: found one that is not. -/
def FoundR (cb bb sb : Nat) (nc nk : Int) (fr : Bool) (r : Bool) (Good : World → Prop) (w : World) (e : Ending) (w' : World) : Prop := e = .returned (.bool (!r)) ∧ Turned (S3 cb bb sb) w w' ∧ (r = true → Good w') ∧ (r = false → ChkX w' cb bb sb nc nk fr)

/-! ### plain -/
theorem bndL_append : ∀ (a b : List Trm), Trm.bndL (a ++ b) = Trm.bndL a ++ Trm.bndL b
  | [], b => by simp [Trm.bndL]
  | x :: a, b => by rw [List.cons_append, Trm.bndL, bndL_append a b, Trm.bndL, List.append_assoc]
theorem allL_append : ∀ (a b : List Trm), Trm.allL (a ++ b) = Trm.allL a + Trm.allL b
  | [], b => by simp [Trm.allL]
  | x :: a, b => by rw [List.cons_append, Trm.allL, allL_append a b, Trm.allL]; omega
theorem bndL_snoc {l : List Trm} {j : Nat} {x : Trm} (h : l[j]? = some x) : Trm.bndL (l.take (j + 1)) = Trm.bndL (l.take j) ++ x.bnd := by
  rw [List.take_add_one, h, bndL_append]; simp [Trm.bndL]
theorem allL_snoc {l : List Trm} {j : Nat} {x : Trm} (h : l[j]? = some x) : Trm.allL (l.take (j + 1)) = Trm.allL (l.take j) + x.all := by
  rw [List.take_add_one, h, allL_append]; simp [Trm.allL]
theorem allLT_take (l : List Trm) (j : Nat) : Trm.allL (l.take j) ≤ Trm.allL l := by
  conv => rhs; rw [← List.take_append_drop j l, allL_append]
  omega
theorem newB_more {a b : List Int} (h : Trm.newB (fun _ => false) (a ++ b) = true) : Trm.newB (fun _ => false) a = true := by
  rw [Trm.newB_append, Bool.and_eq_true] at h; exact h.1
/-- Parts that are all right, so far. -/
def okL (nc nk : Int) (fr : Bool) (sc : Int → Bool) (l : List Int) (ts : List Trm) : Bool := (ts.all fun x => Trm.wf nc nk fr x sc) && Trm.newB (fun _ => false) (l ++ Trm.bndL ts)
theorem okL_step {nc nk : Int} {fr : Bool} {sc : Int → Bool} {l l' : List Int} {ts : List Trm} {j : Nat} {x : Trm} (hx : ts[j]? = some x) (hp : l'.Perm (l ++ Trm.bndL (ts.take j))) (h : okL nc nk fr sc l (ts.take j) = true) :
    okL nc nk fr sc l (ts.take (j + 1)) = (Trm.wf nc nk fr x sc && Trm.newB (fun _ => false) (l' ++ x.bnd)) := by
  rw [okL, bndL_snoc hx, ← List.append_assoc, Trm.newB_perm (hp.append_right x.bnd).symm, List.take_add_one, hx, List.all_append]
  rw [okL, Bool.and_eq_true] at h
  rw [h.1]
  simp
theorem okL_more {nc nk : Int} {fr : Bool} {sc : Int → Bool} {l : List Int} {ts : List Trm} {j : Nat} (h : okL nc nk fr sc l (ts.take j) = false) : okL nc nk fr sc l ts = false := by
  rw [Bool.eq_false_iff] at h ⊢
  intro hh
  refine h ?_
  rw [okL, Bool.and_eq_true] at hh ⊢
  refine ⟨?_, ?_⟩
  · rw [List.all_eq_true] at hh ⊢
    exact fun x hx => hh.1 x (List.mem_of_mem_take hx)
  · have h2 := hh.2
    rw [← List.take_append_drop j ts, bndL_append, ← List.append_assoc] at h2
    exact newB_more h2
theorem wfL_split {nc nk : Int} {fr : Bool} {op : Int} (ho : op ≠ 9) {v : List Int} : ∀ (t : List Trm) (sc : Int → Bool), Trm.wfL nc nk fr op v t sc = (((t.take (t.length - 1)).all fun x => Trm.wf nc nk fr x sc) && ((t.drop (t.length - 1)).all fun x => Trm.wf nc nk fr x (Trm.addV sc v)))
  | [], sc => by simp [Trm.wfL]
  | [x], sc => by simp [Trm.wfL]
  | x :: y :: l, sc => by
    rw [Trm.wfL, if_neg ho, wfL_split ho (y :: l) sc]
    simp [Bool.and_assoc]
theorem wfL_fix {nc nk : Int} {fr : Bool} {v : List Int} : ∀ (t : List Trm) (sc : Int → Bool), Trm.wfL nc nk fr 9 v t sc = ((t.all fun x => Trm.wf nc nk fr x (Trm.addV sc v)) && ((t.take (t.length - 1)).all fun x => x.op == 19))
  | [], sc => by simp [Trm.wfL]
  | [x], sc => by simp [Trm.wfL]
  | x :: y :: l, sc => by
    rw [Trm.wfL, if_pos rfl, wfL_fix (y :: l) sc, Bool.eq_iff_iff]
    simp [and_assoc, and_left_comm]

set_option maxHeartbeats 2000000 in
set_option maxRecDepth 100000 in
/-- The closure that asks a part. -/
theorem right2_to (x : Trm) (hx : RightC x) (c0 c1 c2 c3 : Value) (B cb bb sb : Nat) (nc nk size : Int) (fr : Bool) (l : List Int) (sc : Int → Bool) (deep : Int) (h : Nat) (op n : Int) (vs ts : Value) (W : World) (hv : TrmR W B x [c0, c1, c2, c3]) (hS : ∀ b, S3 cb bb sb b → B ≤ b) (hB : B ≤ W.heap.size) (hc : ChkS W cb bb sb nc nk fr size l sc) (hsc : ∀ v, sc v = true → v ∈ l)
    (h0 : 0 ≤ size) (h1 : size + x.all ≤ 20000) (h2 : 0 ≤ deep) (h3 : deep + 1 + x.all ≤ 401) (hbx : RBox W h cb sb op n vs ts deep) :
    Calls Tryz.prog 106 #[.agg #[c0, c1, c2, c3], .pointer (some ⟨h, 0, none⟩), .pointer (some ⟨h + 1 + 1, 0, none⟩), .pointer (some ⟨h + 1 + 1 + 1, 0, none⟩)] W
      (FoundR cb bb sb nc nk fr (Trm.wf nc nk fr x sc && Trm.newB (fun _ => false) (l ++ x.bnd)) (GoodR cb bb sb nc nk fr (size + x.all) l x.bnd sc) W) := by
  obtain ⟨r, hr⟩ : ∃ r, (Trm.wf nc nk fr x sc && Trm.newB (fun _ => false) (l ++ x.bnd)) = r := ⟨_, rfl⟩
  rw [hr]
  obtain ⟨o', n', v', t', hxe⟩ : ∃ o' n' v' t', x = .mk o' n' v' t' := by obtain ⟨o', n', v', t'⟩ := x; exact ⟨_, _, _, _, rfl⟩
  have hsh : ∃ o n q r s q' r' s', c0 = .int .i64 o ∧ c1 = .int .i64 n ∧ c2 = .slice q r s ∧ c3 = .slice q' r' s' := by
    subst hxe
    obtain ⟨vs', ts', he, _, _, hvs, hts⟩ := trmR_iff.1 hv
    simp only [List.cons.injEq, and_true] at he
    obtain ⟨rfl, rfl, rfl, rfl⟩ := he
    obtain ⟨q, r, s, rfl⟩ := hvs.form
    obtain ⟨q', r', s', rfl⟩ := hts.form
    exact ⟨_, _, _, _, _, _, _, _, rfl, rfl, rfl, rfl⟩
  obtain ⟨o, nn, q, rr, s, q', r', s', rfl, rfl, rfl, rfl⟩ := hsh
  obtain ⟨W1, hW1⟩ : ∃ W1, W.alloc (.cells #[.int .i64 o, .int .i64 nn, .slice q rr s, .slice q' r' s'] 41) = W1 := ⟨_, rfl⟩
  have HB1 := Lib.hid (show Below W.heap.size W W1 from by rw [← hW1]; exact Below.one W _)
  have HC := Lib.hid (hx _ _ _ _ B cb bb sb nc nk size fr l sc (deep + 1) W1 (TrmR.kept (HB1.out.mono hB) _ _ hv) hS (Nat.le_trans hB HB1.out.size) (hc.keep HB1.out) hsc h0 h1 (by omega) (by omega))
  rw [hr] at HC
  have HW := Lib.hid hW1
  have HR := Lib.hid hr
  have x0 := hbx.c.cell 0 rfl
  have x1 := hbx.s.cell 0 rfl
  have x2 := hbx.d.cell 0 rfl
  have l0 := hbx.c.lt
  have l1 := hbx.s.lt
  have l2 := hbx.d.lt
  have hall := x.all_pos
  clear hr hW1 hv hc hx hxe hbx
  go_enter Tryz.func106, Tryz.ntmps106
  go_wp2_with fail
  rw [HW.out]
  refine HC.out.mono ?_
  rintro e w1 ⟨rfl, hT, hg, hb⟩
  have HT := Lib.hid ((Turned.of_below (S := S3 cb bb sb) HB1.out).next hT)
  have HG := Lib.hid hg
  have HBD := Lib.hid hb
  clear hT hg hb x0 x1 x2
  cases r with
  | true =>
    go_wp2_with fail
    go_ret
    exact ⟨rfl, HT.out, fun _ => HG.out trivial, fun h => by simp at h⟩
  | false =>
    go_wp2_with fail
    go_ret
    exact ⟨rfl, HT.out, fun h => by simp at h, fun _ => HBD.out trivial⟩

set_option maxRecDepth 100000 in
/-- The search among parts. -/
theorem search_any (ts : List Trm) (hx : ∀ x ∈ ts, RightC x) (sl : Value) (B cb bb sb : Nat) (nc nk size : Int) (fr : Bool) (l : List Int) (sc : Int → Bool) (deep : Int) (h : Nat) (op n : Int) (vs tv : Value) (W : World) (hv : TrmS W B ts sl) (hS : ∀ b, S3 cb bb sb b → B ≤ b) (hSh : ∀ b, S3 cb bb sb b → b < h) (hB : B ≤ W.heap.size) (hc : ChkS W cb bb sb nc nk fr size l sc) (hsc : ∀ v, sc v = true → v ∈ l)
    (h0 : 0 ≤ size) (h1 : size + Trm.allL ts ≤ 20000) (h2 : 0 ≤ deep) (h3 : deep + 1 + Trm.allL ts ≤ 401) (hbx : RBox W h cb sb op n vs tv deep) :
    Calls Tryz.prog 105 #[sl, .func (.func 106) #[] #[.pointer (some ⟨h, 0, none⟩), .pointer (some ⟨h + 1 + 1, 0, none⟩), .pointer (some ⟨h + 1 + 1 + 1, 0, none⟩)]] W
      (FoundR cb bb sb nc nk fr (okL nc nk fr sc l ts) (GoodR cb bb sb nc nk fr (size + Trm.allL ts) l (Trm.bndL ts) sc) W) := by
  let St : Nat → World → Prop := fun j w' => okL nc nk fr sc l (ts.take j) = true ∧ GoodR cb bb sb nc nk fr (size + Trm.allL (ts.take j)) l (Trm.bndL (ts.take j)) sc w' ∧ Turned (S3 cb bb sb) W w'
  let Bad : World → Prop := fun w' => okL nc nk fr sc l ts = false ∧ ChkX w' cb bb sb nc nk fr ∧ Turned (S3 cb bb sb) W w'
  refine (containsT_S 106 #[.pointer (some ⟨h, 0, none⟩), .pointer (some ⟨h + 1 + 1, 0, none⟩), .pointer (some ⟨h + 1 + 1 + 1, 0, none⟩)] ts sl B W St Bad hv (fun _ _ => rfl) (fun j w' hst => hst.2.2.below hS hB) ?_ ?_).mono ?_
  · refine ⟨?_, ⟨l, by simp [Trm.bndL], ?_⟩, Turned.refl _ _⟩
    · rw [List.take_zero, okL, Trm.bndL, List.append_nil, hc.new]; rfl
    · rw [List.take_zero, Trm.allL]; simpa using hc
  · intro j x hxj c0 c1 c2 c3 w' hr hst
    obtain ⟨hok, ⟨l', hp, hcs⟩, ht⟩ := hst
    have hle := allLT_take ts (j + 1)
    have hsn := allL_snoc hxj
    refine (right2_to x (hx x (List.mem_of_getElem? hxj)) c0 c1 c2 c3 B cb bb sb nc nk _ fr l' sc deep h op n vs tv w' hr hS (Nat.le_trans hB ht.size) hcs (fun v hv => hp.mem_iff.2 (List.mem_append_left _ (hsc v hv))) (by omega) (by omega) h2 (by omega) (hbx.turned ht hSh)).mono ?_
    rintro e w2 ⟨rfl, ht2, hg, hb⟩
    have hst := okL_step hxj hp hok
    obtain ⟨r, hr⟩ : ∃ r, (Trm.wf nc nk fr x sc && Trm.newB (fun _ => false) (l' ++ x.bnd)) = r := ⟨_, rfl⟩
    rw [hr] at hst hg hb ⊢
    refine ⟨_, rfl, fun hc => ?_, fun hc => ?_⟩
    · have hr0 : r = false := by simpa using hc
      exact ⟨okL_more (hst.trans hr0), hb hr0, ht.next ht2⟩
    · have hr0 : r = true := by simpa using hc
      refine ⟨hst.trans hr0, ?_, ht.next ht2⟩
      obtain ⟨l2, hp2, hcs2⟩ := hg hr0
      refine ⟨l2, ?_, ?_⟩
      · rw [bndL_snoc hxj, ← List.append_assoc]
        exact hp2.trans (hp.append_right _)
      · rw [hsn, show size + ((Trm.allL (ts.take j) + x.all : Nat) : Int) = size + (Trm.allL (ts.take j) : Nat) + (x.all : Nat) by omega]
        exact hcs2
  · rintro e w' ⟨c, rfl, hb, hg⟩
    cases c with
    | true =>
      have h := hb rfl
      rw [h.1]
      exact ⟨rfl, h.2.2, fun h => (by cases h), fun _ => h.2.1⟩
    | false =>
      have h := hg rfl
      simp only [St, List.take_of_length_le (Nat.le_refl _)] at h
      rw [h.1]
      exact ⟨rfl, h.2.2, fun _ => h.2.1, fun h => (by cases h)⟩
end Go.Proofs.YtigkhmppnnljiaaGreatDoor

namespace Go.Proofs.YtigkhmppnnljiaaGreatDoor
open Go

section
variable {P : Program} {ops : Array Oper} {md : Region.Mode}

theorem any_all {I : Array Bool → Act → World → Prop} {Q : Exit → Act → World → Prop} (hb : backB md ops = true)
    (hstep : ∀ listed a w i, I listed a w → i ∈ Region.ready md ops listed → wpOp P ops Q i (fun a' w' => I (listed.setIfInBounds i true) a' w') a w)
    (hend : ∀ listed a w, I listed a w → (∀ i, i < ops.size → listed.getD i true = true) → Q .normal a w) :
    ∀ (f : Nat) (listed : Array Bool) (a : Act) (w : World), ((List.range ops.size).filter fun i => !listed.getD i true).length = f → listed.size = ops.size → I listed a w → wpAny P md ops Q f listed a w
  | 0, listed, a, w, hf, hsz, h => by
    have h0 := List.eq_nil_of_length_eq_zero hf
    rw [List.filter_eq_nil_iff] at h0
    have hall : ∀ i, i < ops.size → listed.getD i true = true := fun i hi => by simpa using h0 i (List.mem_range.2 hi)
    refine ⟨?_, hend listed a w h hall⟩
    apply List.eq_nil_iff_forall_not_mem.2
    intro i hi
    have h1 := (mem_ready.1 hi).1
    obtain ⟨_, o, ho, _⟩ := mem_ready.1 hi
    have h2 := hall i (Array.getElem?_eq_some_iff.1 ho).1
    rw [h2] at h1
    cases h1
  | f + 1, listed, a, w, hf, hsz, h => by
    have hex : ∃ i, i < ops.size ∧ i < ops.size ∧ listed.getD i true = false := by
      obtain ⟨i, hi⟩ := List.exists_mem_of_length_pos (by rw [hf]; omega)
      rw [List.mem_filter, List.mem_range] at hi
      exact ⟨i, hi.1, hi.1, by simpa using hi.2⟩
    refine ⟨fun h0 => absurd h0 (first_ready hb hsz hex), fun i hi => ?_⟩
    obtain ⟨hun, o, ho, _⟩ := mem_ready.1 hi
    have hin := (Array.getElem?_eq_some_iff.1 ho).1
    have hlt : i < listed.size := by rw [hsz]; exact hin
    refine wpOp_mono (fun a' w' h' => any_all hb hstep hend f _ a' w' ?_ (by simpa using hsz) h') (hstep listed a w i h hi)
    have key : ((List.range ops.size).filter fun k => !(listed.setIfInBounds i true).getD k true) = (((List.range ops.size).filter fun k => !listed.getD k true)).erase i := by
      rw [List.Nodup.erase_eq_filter (List.nodup_range.sublist List.filter_sublist), List.filter_filter]
      apply List.filter_congr
      intro k hk
      by_cases hki : k = i
      · subst hki
        simp [hlt]
      · rw [getD_set_ne true (Ne.symm hki)]
        simp [hki]
    rw [key, List.length_erase_of_mem (by rw [List.mem_filter, List.mem_range]; exact ⟨hin, by simpa using hun⟩), hf]
    rfl

/-- Operations other than p need nothing of U. -/
def freeB (ops : Array Oper) (p : Nat) (U : Nat → Bool) : Bool := (List.range ops.size).all fun i => decide (i = p) || match ops[i]? with | some o => o.after.all fun e => !Region.binds .any e || !U e.on | none => true
def turnB (ops : Array Oper) (m p : Nat) (U : Nat → Bool) : Bool := backB .any ops && (slotsB ops ops.size m && (guardsB .any ops ops.size m [] && (freeB ops p U && !U p)))
theorem freeB_at {p i : Nat} {U : Nat → Bool} {o : Oper} (h : freeB ops p U = true) (ho : ops[i]? = some o) (hp : i ≠ p) : ∀ e ∈ o.after, Region.binds .any e = true → U e.on = false := fun e he hb => by
  have h1 := List.all_eq_true.1 h i (List.mem_range.2 (Array.getElem?_eq_some_iff.1 ho).1)
  simp only [ho, Bool.or_eq_true, decide_eq_true_eq, hp, false_or] at h1
  have h2 := Array.all_eq_true_iff_forall_mem.1 h1 e he
  simpa [hb] using h2

theorem wp_region_turn {id : Nat} {Q : Exit → Act → World → Prop} {a0 : Act} {w : World} {l : List Oper} (p : Nat) (U : Nat → Bool) (R : Nat → Value → World → Prop) (Ext Ext' : World → World → Prop) (hm : P.follows .mixedOrders = true) (hB : turnB l.toArray a0.tmps.size p U = true)
    (htr : ∀ {A B C : World}, Ext A B → Ext B C → Ext A C) (htr' : ∀ {A B C : World}, Ext' A B → Ext' B C → Ext' A C) (hE : ∀ {A B : World}, Ext w.drew A → Ext' A B → Ext A B) (h0 : Ext w.drew w.drew) (h0' : Ext' w.drew w.drew)
    (hR : ∀ i v A B, i ≠ p → U i = false → R i v A → Ext A B → R i v B) (hU : ∀ i v A B, U i = true → R i v A → Ext' A B → R i v B) (hRp : ∀ v A B, R p v A → Ext' A B → R p v B)
    (hops : ∀ i o, l.toArray[i]? = some o → ∀ (a : Act) (w1 : World), a.defers = a0.defers → a.tmps.size = a0.tmps.size → Ext w.drew w1 → (i = p → Ext' w.drew w1) → (∀ j oj d, j < l.toArray.size → l.toArray[j]? = some oj → (∃ e ∈ o.after, Region.binds .any e = true ∧ e.on = j) → oj.dst = some d → R j (a.tmps.getD d undef) w1) → Rest l.toArray l.toArray.size a0 a →
      wpList P l.toArray (StepPost R (if i = p then Ext else Ext') i o a w1) [o] a w1)
    (hend : ∀ a w1, a.defers = a0.defers → a.tmps.size = a0.tmps.size → Ext w.drew w1 → (∀ i o d, U i = false → l.toArray[i]? = some o → o.dst = some d → R i (a.tmps.getD d undef) w1) → Rest l.toArray l.toArray.size a0 a → Q .normal a w1) :
    (Code.region id l.toArray true).wp P Q a0 w := by
  simp only [turnB, Bool.and_eq_true] at hB
  obtain ⟨h1, hsl, hgd, hfr, hUp⟩ := hB
  have hUp : U p = false := by simpa using hUp
  refine wp_region_any hm ?_
  have hcount : ((List.range l.toArray.size).filter fun i => !(Array.replicate l.toArray.size false).getD i true).length = l.toArray.size := by
    rw [List.filter_eq_self.2]
    · simp
    · intro i hi
      have : i < l.toArray.size := List.mem_range.1 hi
      have h' : i < l.length := by simpa using this
      simp [h']
  refine any_all (P := P) (Q := Q) (I := fun listed a W => listed.size = l.toArray.size ∧ a.defers = a0.defers ∧ a.tmps.size = a0.tmps.size ∧ Rest l.toArray l.toArray.size a0 a ∧ Ext w.drew W ∧ (listed.getD p false = false → Ext' w.drew W) ∧
    ∀ i o d, l.toArray[i]? = some o → listed.getD i false = true → o.dst = some d → (U i = false ∨ listed.getD p false = false) → R i (a.tmps.getD d undef) W) h1 ?_ ?_ _ _ a0 w.drew hcount (by simp)
    ⟨by simp, rfl, rfl, fun _ _ => rfl, h0, fun _ => h0', fun i o d _ h => by rw [getD_replicate_false] at h; cases h⟩
  · rintro listed a w1 i ⟨hls, hdf, hsz, hrest, hex, hex', hval⟩ hr
    obtain ⟨hun, o, ho, hdeps⟩ := mem_ready.1 hr
    have hin := (Array.getElem?_eq_some_iff.1 ho).1
    have hlt : i < listed.size := by rw [hls]; exact hin
    have hun' : listed.getD i false = false := getD_both hun
    have hg : Region.wanted o (yielded l.toArray a.tmps) = true := by simp [Region.wanted, no_guard hgd hin ho]
    have hstep := hops i o ho a w1 hdf hsz hex (fun e => hex' (by rw [← e]; exact hun')) (fun j oj d hj hoj ⟨e, he, hb, hon⟩ hd => hval j oj d hoj (by have := hdeps e he hb; rwa [hon] at this) hd (by
      by_cases hip : i = p
      · exact .inr (by rw [← hip]; exact hun')
      · exact .inl (by rw [← hon]; exact freeB_at hfr ho hip e he hb))) hrest
    unfold wpOp
    simp only [ho]
    rw [if_pos hg]
    left
    refine Oper.wp_mono ?_ (wp_of_list (ops := l.toArray) (K := fun a' w' => ∃ v, a' = a.put o.dst v ∧ R i v w' ∧ (if i = p then Ext else Ext') w1 w') hg hstep)
    rintro a' w' ⟨v, rfl, hv, hx⟩
    have hx' : Ext w1 w' := by
      by_cases e : i = p
      · rwa [if_pos e] at hx
      · rw [if_neg e] at hx; exact hE hex hx
    refine ⟨by simpa using hls, ?_, ?_, ?_, htr hex hx', fun hl => ?_, fun j oj d hoj hl hd hor => ?_⟩
    · cases o.dst <;> exact hdf
    · cases hdst : o.dst with
      | none => exact hsz
      | some d => simpa [Act.put] using hsz
    · intro t ht
      cases hdst : o.dst with
      | none => exact hrest t ht
      | some d' =>
        have hd' := (slots_at hsl hin hin ho ho hdst hdst).1
        rw [put_getD (by rw [hsz]; exact hd'), if_neg ?_]
        · exact hrest t ht
        · rintro rfl; exact ht i o hin ho hdst
    · by_cases e : i = p
      · subst e
        simp [hlt] at hl
      · rw [if_neg e] at hx
        rw [getD_set_ne false e] at hl
        exact htr' (hex' hl) hx
    · by_cases e : i = j
      · subst e
        obtain rfl : oj = o := Option.some.inj (hoj.symm.trans ho)
        have hd' := (slots_at hsl hin hin ho ho hd hd).1
        rw [hd, put_getD (by rw [hsz]; exact hd'), if_pos rfl]
        exact hv
      · rw [getD_set_ne false e] at hl
        have hjn := (Array.getElem?_eq_some_iff.1 hoj).1
        have hor' : U j = false ∨ listed.getD p false = false := by
          rcases hor with h | h
          · exact .inl h
          · refine .inr ?_
            by_cases e' : i = p
            · subst e'
              simp [hlt] at h
            · rwa [getD_set_ne false e'] at h
        have hold := hval j oj d hoj hl hd hor'
        have hsame : (a.put o.dst v).tmps.getD d undef = a.tmps.getD d undef := by
          cases hdo : o.dst with
          | none => rfl
          | some d' =>
            obtain ⟨hd', hne⟩ := slots_at hsl hin hjn ho hoj hdo hd
            rw [put_getD (by rw [hsz]; exact hd'), if_neg (hne.resolve_left e)]
        rw [hsame]
        by_cases ep : j = p
        · subst ep
          rw [if_neg e] at hx
          exact hRp _ _ _ hold hx
        · cases hu : U j with
          | false => exact hR j _ _ _ ep hu hold hx'
          | true =>
            rcases hor with h | h
            · rw [hu] at h; cases h
            · have hip : i ≠ p := fun e' => by subst e'; simp [hlt] at h
              rw [if_neg hip] at hx
              exact hU j _ _ _ hu hold hx
  · rintro listed a w1 ⟨hls, hdf, hsz, hrest, hex, _, hval⟩ hall
    exact hend a w1 hdf hsz hex (fun i o d hu ho hd => hval i o d ho (by
      have hin := (Array.getElem?_eq_some_iff.1 ho).1
      have := hall i hin
      have hlt : i < listed.size := by rw [hls]; exact hin
      simpa [hlt] using this) hd (.inl hu)) hrest
end
end Go.Proofs.YtigkhmppnnljiaaGreatDoor

namespace Go.Proofs.YtigkhmppnnljiaaGreatDoor
open Go.RowKit

theorem newsG {α : Type} {w : World} {size : Nat} {R : α → List Value → Prop} {b : Nat} : ∀ (l : List α) (off : Nat), (∀ i x, l[i]? = some x → ∃ cs : List Value, cs.length = size ∧ (∀ j u, cs[j]? = some u → w.cell? ⟨b, off + i * size + j, none⟩ = some u) ∧ R x cs) → ∃ xs, CellsG size R l xs ∧ ∀ j u, xs[j]? = some u → w.cell? ⟨b, off + j, none⟩ = some u
  | [], _, _ => ⟨[], rfl, fun j u h => by simp at h⟩
  | x :: l, off, h => by
    obtain ⟨cs, h1, h2, h3⟩ := h 0 x rfl
    obtain ⟨r, g1, g2⟩ := newsG l (off + size) fun i y hy => by
      obtain ⟨ds, k1, k2, k3⟩ := h (i + 1) y (by simpa using hy)
      refine ⟨ds, k1, fun j u hj => ?_, k3⟩
      have := k2 j u hj
      rwa [show off + (i + 1) * size + j = off + size + i * size + j by rw [Nat.add_mul]; omega] at this
    refine ⟨cs ++ r, ⟨cs, r, rfl, h1, h3, g1⟩, fun j u hj => ?_⟩
    by_cases hlt : j < size
    · rw [List.getElem?_append_left (by omega)] at hj
      have := h2 j u hj
      rwa [Nat.zero_mul, Nat.add_zero] at this
    · rw [List.getElem?_append_right (by omega), h1] at hj
      have := g2 _ u hj
      rwa [show off + size + (j - size) = off + j by omega] at this
theorem info_code : (Tryz.prog.info? 50).map (fun i => (i.zero, i.size, i.bytes)) = some (some (.agg #[.slice none 0 0, .bool false, .int .i64 0, .int .i64 0, .slice none 0 0, .slice none 0 0]), 6, 96) := by kernel_rfl
theorem codR_shape {w : World} {B : Nat} {c : Cod} {cs : List Value} (h : CodR w B c cs) : ∃ ov lv cv q r u q' r' u', cs = [.slice ov lv cv, .bool c.rest, .int .i64 c.body.op, .int .i64 c.body.n, .slice q r u, .slice q' r' u'] ∧ SlC w B 1 IntR c.v (.slice ov lv cv) ∧ TrmR w B c.body [.int .i64 c.body.op, .int .i64 c.body.n, .slice q r u, .slice q' r' u'] := by
  obtain ⟨vs, b0, b1, b2, b3, rfl, h1, h2⟩ := h
  obtain ⟨v, rest, ⟨op, n, bv, bt⟩⟩ := c
  obtain ⟨vs', ts', he, h3, h4, h5, h6⟩ := trmR_iff.1 h2
  simp only [List.cons.injEq, and_true] at he
  obtain ⟨rfl, rfl, rfl, rfl⟩ := he
  obtain ⟨ov, lv, cv, rfl⟩ := h1.form
  obtain ⟨q, r, u, rfl⟩ := h5.form
  obtain ⟨q', r', u', rfl⟩ := h6.form
  exact ⟨_, _, _, _, _, _, _, _, _, rfl, h1, h2⟩
theorem cods_one {w : World} {B : Nat} : ∀ {l : List Cod} {xs : List Value}, CellsG 6 (CodR w B) l xs → ∀ u ∈ xs, u.oneCell' = true
  | [], _, h, u, hu => by rw [CellsG] at h; subst h; cases hu
  | c :: l, xs, ⟨cs, r, he, _, hc, hr⟩, u, hu => by
    subst he
    obtain ⟨ov, lv, cv, q, r0, u0, q', r', u', rfl, _⟩ := codR_shape hc
    rcases List.mem_append.1 hu with hu | hu
    · simp only [List.mem_cons, List.not_mem_nil, or_false] at hu
      rcases hu with rfl | rfl | rfl | rfl | rfl | rfl <;> rfl
    · exact cods_one hr u hu

set_option maxHeartbeats 1000000 in
set_option maxRecDepth 100000 in
theorem cloneC_any (l : List Cod) (v : Value) (B : Nat) (w : World) (hv : SlC w B 6 (CodR w B) l v) (_hB : B ≤ w.heap.size) (hm : l.length ≤ 1000000) :
    Calls Tryz.prog 40 #[v] w fun e w' => ∃ v' xs, e = .returned v' ∧ w'.ownsRow w.heap.size 50 6 v' l.length xs ∧ CellsG 6 (CodR w B) l xs ∧ (∃ o len cap, v' = .slice o len cap) ∧ Below w.heap.size w w' := by
  obtain ⟨o, len, cap, rfl, hlen, hcap, hmax, h4⟩ := hv
  have HL := Lib.hid hlen
  have hm' : len ≤ 1000000 := by omega
  cases o with
  | none =>
    obtain ⟨rfl, rfl⟩ := h4
    simp at hlen
    subst hlen
    clear HL
    have he := fun (w : World) => Lib.run_eql_slice_nil (P := Tryz.prog) w 38 50 none 0 0 0 0 Tryz.underlying38
    go_enter Tryz.func40, Tryz.ntmps40
    go_wp2_with fail
    go_ret
    exact ⟨_, [], rfl, World.ownsRow_nil _ _ _ _, rfl, ⟨_, _, _, rfl⟩, Below.refl _ _⟩
  | some a =>
    obtain ⟨xs, hc, hr⟩ := newsG l a.off h4.2
    have hxl := hc.length
    have hcell : ∀ j u, xs[j]? = some u → w.cell? (a.add j) = some u := fun j u hj => by
      have hne : l ≠ [] := fun h => by
        have h1 := (List.getElem?_eq_some_iff.1 hj).1
        rw [hxl, h] at h1
        simp at h1
      rw [add_none (h4.1 hne).1]
      exact hr j u hj
    have he := fun (w : World) => Lib.run_eql_slice_nil (P := Tryz.prog) w 38 50 (some a) len cap 0 0 Tryz.underlying38
    have HO := Lib.hid (ownsRow_new (W := w) (b := w.heap.size) (base := w.heap.size) rfl (Nat.le_refl _) 50 6 0 [] rfl (by unfold maxLen; omega))
    obtain ⟨i0, hi, hz0, hz1, hz2⟩ := info_parts info_code
    have HXL := Lib.hid (show xs.length = len * 6 from by rw [hxl, ← hlen])
    have HC := Lib.hid hc
    have HCELL := Lib.hid (show ∀ j u, xs[j]? = some u → (w.alloc (.cells [].toArray 50)).cell? (a.add j) = some u from fun j u hj => by
      have h := hcell j u hj
      have hsp := cell_spot h
      rw [show (a.add j) = ⟨(a.add j).block, (a.add j).off, (a.add j).spot⟩ from rfl, hsp.1] at h ⊢
      exact keepC (Below.one w _) h)
    clear hlen hxl hc hr hcell h4
    go_enter Tryz.func40, Tryz.ntmps40
    go_wp2_with (at_builtin; refine wpList_append_own _ rfl (.tmp 5) (.tmp 6) 38 rfl w.heap.size 50 i0 (.agg #[.slice none 0 0, .bool false, .int .i64 0, .int .i64 0, .slice none 0 0, .slice none 0 0]) 6 96 Tryz.underlying38 hi hz0 hz1 hz2 rfl (by decide) (.slice (some ⟨w.heap.size, 0, none⟩) 0 0) 0 [] rfl HO.out a len cap xs rfl HXL.out HCELL.out (cods_one HC.out) (by unfold maxLen; omega) (by omega) (by simp) ?_)
    intro v' w2 hown hgrow _
    have HR := Lib.hid (show w2.ownsRow w.heap.size 50 6 v' l.length xs from by rw [← HL.out]; simpa using hown)
    have HB := Lib.hid (show Below w.heap.size w w2 from (Below.one w _).grown hgrow (by simp) (fun g hg => by simp [Value.ownBlock] at hg; omega))
    obtain ⟨o', l', c', rfl⟩ : ∃ o' l' c', v' = .slice o' l' c' := by
      rcases hown.2 with ⟨h, _⟩ | ⟨g, cap, cur, h, _⟩
      · exact ⟨_, _, _, h⟩
      · exact ⟨_, _, _, h⟩
    clear hown hgrow
    go_wp2_with fail
    go_ret
    exact ⟨_, xs, rfl, HR.out, HC.out, ⟨_, _, _, rfl⟩, HB.out⟩
end Go.Proofs.YtigkhmppnnljiaaGreatDoor

namespace Go.Proofs.YtigkhmppnnljiaaGreatDoor
open Go Go.RowKit

namespace Peep
open Unt
end Peep
set_option maxHeartbeats 4000000 in
set_option maxRecDepth 100000 in
/-- SameProc at two readings of one procedure. -/
theorem sameProc_self (p : Proc) (hal : p.alive = []) (c0 c1 c2 c3 c4 d0 d1 d2 d3 d4 : Value) (B : Nat) (w : World) (hx : ProcR w B p [c0, c1, c2, c3, c4]) (hy : ProcR w B p [d0, d1, d2, d3, d4]) (hB : B ≤ w.heap.size) (hm : p.code.length ≤ 100000) :
    Calls Tryz.prog 45 #[.agg #[c0, c1, c2, c3, c4], .agg #[d0, d1, d2, d3, d4]] w fun e w' => e = .returned (.bool true) ∧ Below w.heap.size w w' := by
  obtain ⟨args, rest, regs, code, alive⟩ := p
  dsimp only at hal hm
  subst hal
  obtain ⟨sl, al, he, _, _, hsl, hal⟩ := hx
  obtain ⟨sl', al', he', _, _, hsl', hal'⟩ := hy
  simp only [List.cons.injEq, and_true] at he he'
  obtain ⟨rfl, rfl, rfl, rfl, rfl⟩ := he
  obtain ⟨rfl, rfl, rfl, rfl, rfl⟩ := he'
  obtain ⟨o, m, c, rfl⟩ := hsl.form
  obtain ⟨o', m', c', rfl⟩ := hsl'.form
  obtain ⟨oa, la, ca, rfl⟩ := hal.form
  obtain ⟨oa', la', ca', rfl⟩ := hal'.form
  obtain rfl : la = 0 := hal.lens.1
  obtain rfl : la' = 0 := hal'.lens.1
  dsimp only at hsl hsl'
  have HM := Lib.hid hsl.lens.1
  have hmm : m' = m := by rw [hsl'.lens.1, hsl.lens.1]
  subst hmm
  have hmle : m' ≤ 100000 := by rw [hsl.lens.1]; exact hm
  have HS := Lib.hid hsl
  have HS' := Lib.hid hsl'
  obtain ⟨W, hW⟩ : ∃ W, (w.alloc (.cells #[.int .i64 args, .bool rest, .int .i64 regs, .slice o m' c, .slice oa 0 ca] 31)).alloc (.cells #[.int .i64 args, .bool rest, .int .i64 regs, .slice o' m' c', .slice oa' 0 ca'] 31) = W := ⟨_, rfl⟩
  have HX := Lib.hid (show BoxL W w.heap.size 31 [.int .i64 args, .bool rest, .int .i64 regs, .slice o m' c, .slice oa 0 ca] from by rw [← hW]; exact (BoxL.new rfl _ _).alloc _)
  have HY := Lib.hid (show BoxL W (w.heap.size + 1) 31 [.int .i64 args, .bool rest, .int .i64 regs, .slice o' m' c', .slice oa' 0 ca'] from by rw [← hW]; exact BoxL.new (by simp) _ _)
  have HWB := Lib.hid (show Below w.heap.size w W from by rw [← hW]; exact (Below.one w _).trans ((Below.one _ _).mono (by simp)))
  have HWE := Lib.hid hW
  have HR0 := Lib.hid (Below.refl W.heap.size W)
  clear hsl hsl' hal hal' hm hW
  go_enter Tryz.func45, Tryz.ntmps45
  go_upto_region 4 with fail
  rw [HWE.out]
  go_wp2_with fail
  go_loopg [5] m' (fun G i wr => ∃ j : Nat, G = m' - j ∧ j ≤ m' ∧ i = .int .i64 j ∧ Hid (Below W.heap.size W wr))
  case atStart => exact ⟨0, rfl, by omega, rfl, HR0⟩
  case round =>
    obtain ⟨j, rfl, hj, rfl, HW⟩ := hrel
    clear HR0
    have x3 := (HX.out.keep HW.out).cell 3 rfl
    have y3 := (HY.out.keep HW.out).cell 3 rfl
    have x4 := (HX.out.keep HW.out).cell 4 rfl
    have hxl := (HX.out.keep HW.out).lt
    have hyl := (HY.out.keep HW.out).lt
    have HBW := Lib.hid (show Below B w wr from (Below.next HWB.out HW.out).mono hB)
    by_cases hjm : j < m'
    · obtain ⟨x, hx⟩ : ∃ x, code[j]? = some x := ⟨_, List.getElem?_eq_getElem (by rw [← HM.out]; exact hjm)⟩
      obtain ⟨b1, f1, cs1, ho1, hb1, hcl1, hcell1, hi1⟩ := HS.out.at HBW.out hx
      obtain ⟨b2, f2, cs2, ho2, hb2, hcl2, hcell2, hi2⟩ := HS'.out.at HBW.out hx
      subst ho1 ho2
      match cs1, hcl1, cs2, hcl2 with
      | [s0, s1, s2, s3, s4], _, [t0, t1, t2, t3, t4], _ =>
        have e0 := hcell1 0 _ rfl
        have e1 := hcell1 1 _ rfl
        have e2 := hcell1 2 _ rfl
        have e3 := hcell1 3 _ rfl
        have e4 := hcell1 4 _ rfl
        have g0 := hcell2 0 _ rfl
        have g1 := hcell2 1 _ rfl
        have g2 := hcell2 2 _ rfl
        have g3 := hcell2 3 _ rfl
        have g4 := hcell2 4 _ rfl
        rw [Nat.add_zero] at e0 g0
        have hws : w.heap.size ≤ wr.heap.size := (Below.next HWB.out HW.out).size
        have HJ := Lib.hid (fun (V : World) (hV : V = wr.drew) => sameIns_self x s0 s1 s2 s3 s4 t0 t1 t2 t3 t4 B V (hi1.kept (by rw [hV]; exact HBW.out.drew)) (hi2.kept (by rw [hV]; exact HBW.out.drew)) (by rw [hV]; exact Nat.le_trans hB hws))
        obtain ⟨op, d, a, b, l⟩ := x
        obtain ⟨sl1, he1, _, _, _, _, hl1⟩ := hi1
        obtain ⟨sl2, he2, _, _, _, _, hl2⟩ := hi2
        obtain ⟨p1, n1, q1, rfl⟩ := hl1.form
        obtain ⟨p2, n2, q2, rfl⟩ := hl2.form
        simp only [List.cons.injEq, and_true] at he1 he2
        obtain ⟨rfl, rfl, rfl, rfl, rfl⟩ := he1
        obtain ⟨rfl, rfl, rfl, rfl, rfl⟩ := he2
        have hbl1 := cell_lt e0
        have hbl2 := cell_lt g0
        clear hcell1 hcell2 hcl1 hcl2 hl1 hl2 hx
        go_upto_region 6 with fail
        refine wp_region_quiet_class (fun V => V = wr.drew) 10 (by kernel_rfl) (by kernel_rfl) rfl ?_
        intro T _ Wd HWd HWd2
        have a0 := fun s => cell_qd (HWd s) e0
        have a1 := fun s => cell_qd (HWd s) e1
        have a2 := fun s => cell_qd (HWd s) e2
        have a3 := fun s => cell_qd (HWd s) e3
        have a4 := fun s => cell_qd (HWd s) e4
        have b0 := fun s => cell_qd (HWd s) g0
        have b1' := fun s => cell_qd (HWd s) g1
        have b2' := fun s => cell_qd (HWd s) g2
        have b3 := fun s => cell_qd (HWd s) g3
        have b4 := fun s => cell_qd (HWd s) g4
        have z1 := fun s => cell_qd (HWd s) x3
        have z2 := fun s => cell_qd (HWd s) y3
        have HWH := Lib.hid HWd
        clear HWd HWd2
        simp only [List.take_succ_cons, List.take_zero, List.drop_succ_cons, List.drop_zero]
        repeat (go_big_quiet_step (fail))
        refine wpQuiet_nil ?_
        intro s
        go_wp2_with fail
        refine (HJ.out _ (HWH.out s)).mono ?_
        rintro e w7 ⟨rfl, hb7⟩
        have HW7 := Lib.hid (show Below W.heap.size W w7 from Below.next (by rw [HWH.out s]; exact HW.out.drew) hb7)
        clear hb7 HJ a0 a1 a2 a3 a4 b0 b1' b2' b3 b4 z1 z2 e0 e1 e2 e3 e4 g0 g1 g2 g3 g4
        go_wp2_with fail
        go_roundg (m' - (j + 1))
        case measure => omega
        case rel => exact ⟨j + 1, rfl, by omega, by go_num, HW7⟩
    · obtain rfl : j = m' := by omega
      have HWF := Lib.hid (Below.next HWB.out HW.out)
      have HZ := Lib.hid (Below.refl wr.heap.size wr)
      obtain ⟨wo, rfl⟩ : ∃ wo : World, wo = wr := ⟨_, rfl⟩
      go_wp2_with fail
      go_loopg [6] 0 (fun G i wq => G = 0 ∧ i = .int .i64 0 ∧ wo = wq)
      case atStart => exact ⟨rfl, rfl, rfl⟩
      case round =>
        obtain ⟨rfl, rfl, rfl⟩ := hrel
        go_wp2_with fail
        go_ret
        exact ⟨rfl, HWF.out⟩
end Go.Proofs.YtigkhmppnnljiaaGreatDoor

namespace Go.Proofs.YtigkhmppnnljiaaGreatDoor
open Go Go.RowKit

end Go.Proofs.YtigkhmppnnljiaaGreatDoor

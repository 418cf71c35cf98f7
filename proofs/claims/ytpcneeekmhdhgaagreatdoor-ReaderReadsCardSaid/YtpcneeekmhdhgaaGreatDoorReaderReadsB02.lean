/-
  What the proofs lean on: RdR7, RdR8.
-/
import Derived.Test.YtpcneeekmhdhgaaGreatDoorRdzA10
import Derived.Test.YtpcneeekmhdhgaaGreatDoorReaderReadsB01
set_option maxRecDepth 100000
set_option maxHeartbeats 16000000
namespace Go.Proofs.YtpcneeekmhdhgaaGreatDoor
section
open Go Go.RowKit
namespace Rd
open Dat
theorem D_nil : D [] = .bad [] := by rw [D_eq]; rfl
theorem S_item' {p a : Bool} {r r2 : List UInt8} (h : skip false r = r2) (h41 : ∀ t, r2 ≠ 41 :: t) (hp : ∀ t, r2 = 46 :: t → ¬ (p = true ∧ a = true)) : S p a r = oneF D (S p true) r2 := by
 cases r2 with
 | nil => rw [S_nil h]; unfold oneF; rw [D_nil]
 | cons c t => exact S_item h (fun e => h41 t (by rw [e])) (fun e => hp t (by rw [e.1]) e.2)
end Rd
def DSt (s : ByteArray) (p : Bool) (t : List UInt8) (l0 : List Dat) (x : Dat) (a : Nat) (m : Int) (g : Nat) : Prop :=
 (∃ r, m = -1 ∧ x = Dat.null ∧ Rd.At s a r ∧ Rd.S p false t = Rd.pre l0 (Rd.S p (!l0.isEmpty) r) ∧ r.length + 2 ≤ g ∧ r.length ≤ t.length ∧ l0.length + r.length ≤ t.length) ∨
 (∃ r t2, m = -1 ∧ Rd.At s a r ∧ Rd.skip false r = 41 :: t2 ∧ Rd.S p false t = .ok (l0, x) t2 ∧ 1 ≤ g ∧ l0.length ≤ t.length) ∨
 (∃ q, m = ((s.size - q.length : Nat) : Int) ∧ Rd.S p false t = .bad q ∧ l0.length ≤ t.length + 1)
def DInv (b : Nat) (s : ByteArray) (p : Bool) (t : List UInt8) (w : World) (g : Nat) (lv : Value) (wr : World) : Prop := Hid (∃ (l0 : List Dat) (x : Dat) (k n d : Int) (st : ByteArray) (o : Option Addr) (len cap a' : Nat) (m : Int), RB wr b s a' m ∧ GrownH wr (w.heap.size + 2) (w.heap.size + 2) l0 lv ∧ Turned (fun c => c = b) w wr ∧ Box5 wr w.heap.size 33 (.int .i64 0) (.int .i64 0) (.int .i64 0) (.string ⟨#[]⟩) (.slice none 0 0) ∧ Box5 wr (w.heap.size + 1) 33 (.int .i64 k) (.int .i64 n) (.int .i64 d) (.string st) (.slice o len cap) ∧ RepD (hide wr (Lo (w.heap.size + 2))) wr.heap.size x (.agg #[.int .i64 k, .int .i64 n, .int .i64 d, .string st, .slice o len cap]) ∧ DSt s p t l0 x a' m g)
theorem rseq_fin {b : Nat} {s : ByteArray} {res : Rd.Res (List Dat × Dat)} {w W : World} {l0 : List Dat} {x : Dat} {k n d : Int} {st : ByteArray} {o o3 : Option Addr} {len cap len3 cap3 a' : Nat} {m : Int} (hne : w.heap.size ≠ b) (h1 : RB W b s a' m) (h2 : GrownH W (w.heap.size + 2) (w.heap.size + 2) l0 (.slice o3 len3 cap3)) (h3 : Turned (fun c => c = b) w W)
  (h6 : RepD (hide W (Lo (w.heap.size + 2))) W.heap.size x (.agg #[.int .i64 k, .int .i64 n, .int .i64 d, .string st, .slice o len cap])) (hf : RFits s res (l0, x) a' m) :
  RSeq b s res w (.returned (.tuple #[.slice o3 len3 cap3, .agg #[.int .i64 k, .int .i64 n, .int .i64 d, .string st, .slice o len cap]])) (set5 W w.heap.size (.int .i64 k) (.int .i64 n) (.int .i64 d) (.string st) (.slice o len cap)) := by
 have hsh : Shown W (Lo (w.heap.size + 2)) (set5 W w.heap.size (.int .i64 k) (.int .i64 n) (.int .i64 d) (.string st) (.slice o len cap)) (Lo w.heap.size) := (Shown.five W (S := Lo (w.heap.size + 2)) (show Lo (w.heap.size + 2) w.heap.size from by unfold Lo; omega) _ _ _ _ _).trans (Shown.less _ fun q _ hq => by unfold Lo at hq ⊢; omega)
 exact ⟨l0, x, o3, len3, cap3, k, n, d, st, o, len, cap, a', m, rfl, h2.rep.shown hsh (by rw [set5_size]; exact Nat.le_refl _), h6.shown hsh (by rw [set5_size]; exact Nat.le_refl _), (set5_heap _ _ _ _ _ _ _ (Ne.symm hne)).trans h1, turned_low h3 (set5_below _ _ _ _ _ _ _ _ (Nat.le_refl _)), hf⟩
theorem RSeq.drew {b : Nat} {s : ByteArray} {res : Rd.Res (List Dat × Dat)} {w : World} {e : Ending} {W : World} (h : RSeq b s res w e W) : RSeq b s res w e W.drew := by
 obtain ⟨l, x, o', len', cap', k, n, d, st, o, len, cap, a', m, h0, h1, h2, h3, h4, h5⟩ := h
 have hb : Below W.heap.size W W.drew := Below.selfN W 1
 exact ⟨l, x, o', len', cap', k, n, d, st, o, len, cap, a', m, h0, h1.shown (Shown.below hb) hb.size, h2.shown (Shown.below hb) hb.size, BoxL.keep h3 hb, h4.next (Turned.of_below hb), h5⟩
theorem rep_leaf_any {w w' : World} {B B' : Nat} {k n d : Int} {s : ByteArray} {v : Value} (h : RepD w B (.mk k n d s []) v) : RepD w' B' (.mk k n d s []) v := by
 obtain ⟨sl, rfl, h1, h2, h3, h4, o, len, cap, rfl, h5, h6, h7, h8⟩ := h.open
 refine RepD.shut h1 h2 h3 h4 ⟨o, len, cap, rfl, h5, h6, h7, ?_⟩
 cases o with
 | none => exact h8
 | some a => exact ⟨fun h => absurd rfl h, by rw [RepC]; trivial⟩
theorem skip_fix : ∀ (r : List UInt8) (m : Bool) (c : UInt8) (t : List UInt8), Rd.skip m r = c :: t → Rd.skip false (c :: t) = c :: t
 | [], m, _, _, h => by cases m <;> cases h
 | b :: r, true, c, t, h => by
  simp only [Rd.skip] at h
  split at h
  ·exact skip_fix r false c t h
  ·exact skip_fix r true c t h
 | b :: r, false, c, t, h => by
  simp only [Rd.skip] at h
  split at h
  ·exact skip_fix r true c t h
  split at h
  ·exact skip_fix r false c t h
  ·rename_i h1 h2
   cases h
   simp only [Rd.skip]
   rw [if_neg h1, if_neg h2]
theorem dst_cases {s : ByteArray} {p : Bool} {t : List UInt8} {l0 : List Dat} {x : Dat} {a : Nat} {m : Int} {g : Nat} (h : DSt s p t l0 x a m g) :
  (∃ r t2, m = -1 ∧ Rd.At s a r ∧ Rd.skip false r = 41 :: t2 ∧ Rd.S p false t = .ok (l0, x) t2) ∨
  (∃ r r2, m = -1 ∧ x = Dat.null ∧ Rd.At s a r ∧ Rd.skip false r = r2 ∧ (∀ t', r2 ≠ 41 :: t') ∧ Rd.S p false t = Rd.pre l0 (Rd.S p (!l0.isEmpty) r) ∧ r2.length + 2 ≤ g ∧ r2.length ≤ t.length ∧ l0.length + r2.length ≤ t.length) ∨
  (∃ q, m = ((s.size - q.length : Nat) : Int) ∧ Rd.S p false t = .bad q ∧ l0.length ≤ t.length + 1) := by
 rcases h with ⟨r, h1, h2, h3, h4, h5, h6, h7⟩ | ⟨r, t2, h1, h2, h3, h4, h5, h6⟩ | h
 ·have hl := Rd.skip_le r false
  by_cases hc : ∃ t2, Rd.skip false r = 41 :: t2
  ·obtain ⟨t2, ht⟩ := hc
   refine .inl ⟨r, t2, h1, h3, ht, ?_⟩
   rw [h4, Rd.S_close ht, h2]
   simp [Rd.pre, Rd.Res.map]
  ·exact .inr (.inl ⟨r, _, h1, h2, h3, rfl, fun t' e => hc ⟨t', e⟩, h4, by omega, by omega, by omega⟩)
 ·exact .inl ⟨r, t2, h1, h2, h3, h4⟩
 ·exact .inr (.inr h)
theorem dst_item {s : ByteArray} {p : Bool} {t : List UInt8} {l0 : List Dat} {y : Dat} {a : Nat} {m : Int} {r2 : List UInt8} {k : Nat} (hat : Rd.At s k r2) (hS : Rd.S p false t = Rd.pre l0 (Rd.oneF Rd.D (Rd.S p true) r2)) (hf : RFits s (Rd.D r2) y a m) (_h1 : r2.length ≤ t.length) (h2 : l0.length + r2.length ≤ t.length) :
  DSt s p t (l0 ++ [y]) Dat.null a m (r2.length + 1) := by
 have hg := Rd.D_good r2
 cases hD : Rd.D r2 with
 | ok z q =>
  rw [hD] at hf hg
  obtain ⟨rfl, rfl, rfl⟩ := hf
  have hq := hg.2
  refine .inl ⟨q, rfl, rfl, hat.suf hg.1, ?_, by omega, by omega, by rw [List.length_append, List.length_singleton]; omega⟩
  rw [hS, Rd.pre_ok hD, show (!(l0 ++ [y]).isEmpty) = true from by cases l0 <;> rfl]
 | bad q =>
  rw [hD] at hf
  exact .inr (.inr ⟨q, hf, by rw [hS, Rd.pre_bad hD], by rw [List.length_append, List.length_singleton]; omega⟩)
theorem rdata_any (n : Nat) (H : RDatOk n) (b : Nat) (s : ByteArray) (a : Nat) (t : List UInt8) (w : World) (p : Bool) (dp : Int) (hn : t.length < n) (hp : RB w b s a (-1)) (hat : Rd.At s a t) (hs : s.size ≤ 65536) :
  Calls Tryz.prog 82 #[.pointer (some ⟨b, 0, none⟩), .bool p, .int .i64 dp] w (RSeq b s (Rd.S p false t) w) := by
 have htl : t.length ≤ 65536 := by have := hat.1; omega
 have hb := hp.lt
 have hne : w.heap.size ≠ b := by omega
 have hnb1 : w.heap.size + 1 ≠ b := by omega
 obtain ⟨W2, hW2⟩ : ∃ W2, (w.alloc (.cells #[.int .i64 0, .int .i64 0, .int .i64 0, .string ⟨#[]⟩, .slice none 0 0] 33)).alloc (.cells #[.int .i64 4, .int .i64 0, .int .i64 0, .string ⟨#[]⟩, .slice none 0 0] 33) = W2 := ⟨_, rfl⟩
 have HI := Lib.hid (show DInv b s p t w (t.length + 2) (.slice none 0 0) W2 from Lib.hid ⟨[], Dat.null, 4, 0, 0, ⟨#[]⟩, none, 0, 0, a, -1, by rw [← hW2]; exact BoxL.alloc (BoxL.alloc hp _) _, GrownH.nil _ (Nat.le_refl _),
  by rw [← hW2]; exact Turned.of_below ((Below.one w _).trans ((Below.one _ _).mono (by simp))), by rw [← hW2]; exact (Box5.new w _ _ _ _ _ _).alloc _, by rw [← hW2]; have := Box5.new (w.alloc (.cells #[.int .i64 0, .int .i64 0, .int .i64 0, .string ⟨#[]⟩, .slice none 0 0] 33)) 33 (.int .i64 4) (.int .i64 0) (.int .i64 0) (.string ⟨#[]⟩) (.slice none 0 0); rwa [World.size_alloc] at this,
  RepD.shut (by omega) (by omega) (by omega) (by decide) ⟨none, 0, 0, rfl, rfl, by omega, by omega, rfl, rfl⟩, .inl ⟨t, rfl, rfl, hat, by rw [Rd.pre_nil]; rfl, Nat.le_refl _, Nat.le_refl _, by simp⟩⟩)
 have HW2 := Lib.hid hW2
 clear hp hat hW2
 go_enter Tryz.func82, Tryz.ntmps82
 go_wp2_with fail
 rw [HW2.out]
 clear HW2
 go_loopg [8] (t.length + 2) (fun g lv wr => DInv b s p t w g lv wr)
 case atStart => exact HI.out
 case round =>
  obtain ⟨l0, x, k, n9, d, st, o, len, cap, a1, m, hrb, hg, hT, hbx, hbe, hrx, hst⟩ := hrel.out
  clear hrel HI
  obtain ⟨o3, len3, cap3, hv3, hl3⟩ := hg.form
  subst hv3
  have HLN := Lib.hid hl3
  have HTW := Lib.hid hT
  have HG := Lib.hid hg
  have HBX := Lib.hid hbx
  have HBE := Lib.hid hbe
  have HRX := Lib.hid hrx
  have HRB := Lib.hid hrb
  have hk1 := hbe.lt
  have hzl := hrb.lt
  have low : ∀ (N q : Nat), q < N → q = b → Lo (w.heap.size + 2) q := fun N q _ hq => by unfold Lo; omega
  have LOW := Lib.hid low
  have hbk : b < w.heap.size + 2 := by omega
  have hmb := hrb.cell 2 rfl
  clear hl3 low hg hT hrx
  rcases dst_cases hst with ⟨r1, t2, rfl, hat1, hsk, hS⟩ | ⟨r1, r2, rfl, rfl, hat1, hsk, h41, hS, hle, hlt1, hlen⟩ | ⟨q, rfl, hS, hlen⟩
  ·have hC := rnext_any b s a1 (-1) r1 wr hrb hat1 hs
   rw [hsk] at hC
   have HS := Lib.hid hS
   have hq := hat1.suf (Rd.skip_suf r1 false)
   rw [hsk] at hq
   have HPT := Lib.hid (show ((s.size - (41 :: t2).length : Nat) : Int) + 1 = ((s.size - t2.length : Nat) : Int) from by have := hq.1; simp only [List.length_cons] at this ⊢; omega)
   obtain ⟨kp, hkp⟩ : ∃ kp, s.size - (41 :: t2).length = kp := ⟨_, rfl⟩
   rw [hkp] at HPT hC
   have hkb : kp ≤ s.size := by omega
   have HC := Lib.hid hC
   clear hC hS hat1 hsk hq hkp hrb hbx hbe hst
   go_upto_region 5 with (first | (go_at_call 41; refine HC.out.mono ?_; rintro e' w1 ⟨rfl, hr1, ht1⟩; have d1 := hr1.cell 1 rfl; have d2 := hr1.free 1; have d3 := hr1.lt; have HR1 := Lib.hid hr1; have HT1 := Lib.hid ht1; clear hr1 ht1))
   go_upto_region 7 with fail
   rw [HPT.out]
   have hr2 : RB (w1.setCell ⟨b, 1, none⟩ (.int .i64 ((s.size - t2.length : Nat) : Int))) b s (s.size - t2.length) (-1) := RB.at HR1.out _
   have ht2 : Turned (fun c => c = b) wr (w1.setCell ⟨b, 1, none⟩ (.int .i64 ((s.size - t2.length : Nat) : Int))) := HT1.out.next (Turned.set _ _ _ rfl)
   generalize w1.setCell ⟨b, 1, none⟩ (.int .i64 ((s.size - t2.length : Nat) : Int)) = W5 at hr2 ht2 ⊢
   have HR5 := Lib.hid hr2
   have HT5 := Lib.hid ht2
   have HG5 := Lib.hid (HG.out.turned ht2 (LOW.out _))
   have HY5 := Lib.hid (rep_turn HRX.out ht2 hbk)
   have hbx : Box5 W5 w.heap.size 33 (.int .i64 0) (.int .i64 0) (.int .i64 0) (.string ⟨#[]⟩) (.slice none 0 0) := (ht2.block _ HBX.out.lt hne).trans HBX.out
   have hbe : Box5 W5 (w.heap.size + 1) 33 (.int .i64 k) (.int .i64 n9) (.int .i64 d) (.string st) (.slice o len cap) := (ht2.block _ hk1 hnb1).trans HBE.out
   have HX5 := Lib.hid hbx
   obtain ⟨q0', q1, q2, q3, q4⟩ := hbe.cells
   obtain ⟨v0, v1, v2, v3, v4⟩ := hbx.cells
   obtain ⟨y0, y1, y2, y3, y4⟩ := hbx.free
   have gl3 := hbx.lt
   have gl4 := hbe.lt
   clear hr2 ht2 hbx hbe d1 d2 d3 hmb
   go_region
   all_goals go_wp2_with fail
   all_goals
    have HR6 := Lib.hid (HX5.out.set (.int .i64 k) (.int .i64 n9) (.int .i64 d) (.string st) (.slice o len cap))
    obtain ⟨r0, r1, r2, r3, r4⟩ := HR6.out.cells
    refine bodyPost_ret (v := .tuple #[.slice o3 len3 cap3, .agg #[.int .i64 k, .int .i64 n9, .int .i64 d, .string st, .slice o len cap]]) (by simp [results, Tryz.results82, go_sem, r0, r1, r2, r3, r4]) rfl ?_
    rw [HS.out]
    exact (rseq_fin hne HR5.out HG5.out (HTW.out.next HT5.out) HY5.out (show RFits s (Rd.Res.ok (l0, x) t2) (l0, x) _ _ from ⟨rfl, rfl, rfl⟩)).drew
  ·have hC := rnext_any b s a1 (-1) r1 wr hrb hat1 hs
   have hqa := hat1.suf (Rd.skip_suf r1 false)
   rw [hsk] at hC hqa
   obtain ⟨kp, hkp⟩ : ∃ kp, s.size - r2.length = kp := ⟨_, rfl⟩
   rw [hkp] at hC hqa
   have hkb : kp ≤ s.size := by omega
   have HQA := Lib.hid hqa
   have HKP := Lib.hid hkp
   obtain ⟨hd, hhd⟩ : ∃ hd, r2.headD 0 = hd := ⟨_, rfl⟩
   rw [hhd] at hC
   have HC := Lib.hid hC
   have q41 : ((hd.toNat : Int) == 41) = false := by
    rw [show ((hd.toNat : Int) == 41) = decide (hd = 41) from u8_eq hd 41]
    refine decide_eq_false fun e => ?_
    cases r2 with
    | nil => rw [← hhd] at e; exact absurd e (by decide)
    | cons c t' => rw [← hhd] at e; exact h41 t' (by rw [show c = 41 from e])
   have q46 : ((hd.toNat : Int) == 46) = decide (hd = 46) := u8_eq hd 46
   clear hC hat1 hrb hbx hbe hst hqa hkp
   by_cases hpt : ∃ t1, r2 = 46 :: t1 ∧ p = true ∧ l0.isEmpty = false
   ·obtain ⟨t1, rfl, rfl, hl0⟩ := hpt
    have q46' : ((hd.toNat : Int) == 46) = true := by rw [q46]; exact decide_eq_true (by rw [← hhd]; rfl)
    have hln : 0 < l0.length := by cases l0 with
     | nil => cases hl0
     | cons y l => simp
    have hl1 : decide (0 < (len3 : Int)) = true := by have := HLN.out; simp; omega
    have hl2 : decide (0 < len3) = true := by have := HLN.out; simp; omega
    have HS2 := Lib.hid (show Rd.S true false t = Rd.pre l0 (Rd.pointF Rd.D t1) from by rw [hS, hl0, show (!false) = true from rfl, Rd.S_point hsk])
    simp only [List.length_cons] at hlt1 hlen hle
    have hq1 : Rd.At s (kp + 1) t1 := HQA.out.cons
    have HQ1 := Lib.hid hq1
    have HCL := Lib.hid (fun (W : World) (dp' : Int) (hW : RB W b s (kp + 1) (-1)) => H b s (kp + 1) t1 W dp' (by omega) hW hq1 hs)
    have HADD := Lib.hid (show ((kp : Int) + 1) = ((kp + 1 : Nat) : Int) from by omega)
    have hgood := Rd.D_good t1
    have HGD := Lib.hid hgood
    have hkb2 : kp + 1 ≤ s.size := by have := hq1.1; omega
    clear hS hsk h41 q46 hhd hgood hq1 hln hl0
    go_upto_region 5 with (first | (go_at_call 41; refine HC.out.mono ?_; rintro e' w1 ⟨rfl, hr1, ht1⟩; have d1 := hr1.cell 1 rfl; have d2 := hr1.free 1; have d3 := hr1.lt; have HR1 := Lib.hid hr1; have HT1 := Lib.hid ht1; clear hr1 ht1))
    go_upto_region 10 with fail
    rw [HADD.out]
    have hr3 : RB (w1.setCell ⟨b, 1, none⟩ (.int .i64 ((kp + 1 : Nat) : Int))) b s (kp + 1) (-1) := RB.at HR1.out _
    have ht3 : Turned (fun c => c = b) wr (w1.setCell ⟨b, 1, none⟩ (.int .i64 ((kp + 1 : Nat) : Int))) := HT1.out.next (Turned.set _ _ _ rfl)
    generalize w1.setCell ⟨b, 1, none⟩ (.int .i64 ((kp + 1 : Nat) : Int)) = W3 at hr3 ht3 ⊢
    have HR3 := Lib.hid hr3
    have HT3 := Lib.hid (HTW.out.next ht3)
    have HG3 := Lib.hid (HG.out.turned ht3 (LOW.out _))
    have HX3 := Lib.hid (show Box5 W3 w.heap.size 33 (.int .i64 0) (.int .i64 0) (.int .i64 0) (.string ⟨#[]⟩) (.slice none 0 0) from (ht3.block _ HBX.out.lt hne).trans HBX.out)
    have HE3 := Lib.hid (show Box5 W3 (w.heap.size + 1) 33 (.int .i64 k) (.int .i64 n9) (.int .i64 d) (.string st) (.slice o len cap) from (ht3.block _ hk1 hnb1).trans HBE.out)
    clear hr3 ht3 d1 d2 d3 HG HTW HBX HBE HR1 HT1 hmb
    go_upto_region 11 with (first | (go_at_call 42; refine (HCL.out _ _ HR3.out).mono ?_; rintro e' w2 ⟨y, k9, n8, d9, s9, o9, len9, cap9, a9, m9, rfl, hrep, hrb, ht2, hf⟩; have he2 : Box5 w2 (w.heap.size + 1) 33 (.int .i64 k) (.int .i64 n9) (.int .i64 d) (.string st) (.slice o len cap) := (ht2.block _ HE3.out.lt hnb1).trans HE3.out; obtain ⟨p0, p1, p2, p3, p4⟩ := he2.cells; obtain ⟨z0, z1, z2, z3, z4⟩ := he2.free; have pl := he2.lt; have HE2 := Lib.hid he2; have HREP := Lib.hid hrep; have HRB2 := Lib.hid hrb; have HT2 := Lib.hid ht2; have HF2 := Lib.hid hf; clear hrep hrb ht2 hf he2))
    have hpb4 : RB (set5 w2 (w.heap.size + 1) (.int .i64 k9) (.int .i64 n8) (.int .i64 d9) (.string s9) (.slice o9 len9 cap9)) b s a9 m9 := HRB2.out.five' (Ne.symm hnb1) _ _ _ _ _
    have hg4 := (HG3.out.turned HT2.out (LOW.out _)).five (B := w.heap.size + 1) (Nat.lt_succ_self _) (.int .i64 k9) (.int .i64 n8) (.int .i64 d9) (.string s9) (.slice o9 len9 cap9)
    have ht4 : Turned (fun c => c = b) w (set5 w2 (w.heap.size + 1) (.int .i64 k9) (.int .i64 n8) (.int .i64 d9) (.string s9) (.slice o9 len9 cap9)) := turned_low (HT3.out.next HT2.out) (set5_below _ _ _ _ _ _ _ _ (Nat.le_succ _))
    have hx4 : Box5 (set5 w2 (w.heap.size + 1) (.int .i64 k9) (.int .i64 n8) (.int .i64 d9) (.string s9) (.slice o9 len9 cap9)) w.heap.size 33 (.int .i64 0) (.int .i64 0) (.int .i64 0) (.string ⟨#[]⟩) (.slice none 0 0) := (set5_heap _ _ _ _ _ _ _ (by omega)).trans ((HT2.out.block _ HX3.out.lt hne).trans HX3.out)
    have he4 : Box5 (set5 w2 (w.heap.size + 1) (.int .i64 k9) (.int .i64 n8) (.int .i64 d9) (.string s9) (.slice o9 len9 cap9)) (w.heap.size + 1) 33 (.int .i64 k9) (.int .i64 n8) (.int .i64 d9) (.string s9) (.slice o9 len9 cap9) := HE2.out.set (.int .i64 k9) (.int .i64 n8) (.int .i64 d9) (.string s9) (.slice o9 len9 cap9)
    have hy4 : RepD (hide (set5 w2 (w.heap.size + 1) (.int .i64 k9) (.int .i64 n8) (.int .i64 d9) (.string s9) (.slice o9 len9 cap9)) (Lo (w.heap.size + 2))) (set5 w2 (w.heap.size + 1) (.int .i64 k9) (.int .i64 n8) (.int .i64 d9) (.string s9) (.slice o9 len9 cap9)).heap.size y (.agg #[.int .i64 k9, .int .i64 n8, .int .i64 d9, .string s9, .slice o9 len9 cap9]) := HREP.out.shown ((Shown.less w2 (S := Lo W3.heap.size) (S' := Lo (w.heap.size + 2)) fun q _ hq => by unfold Lo at hq ⊢; have := HE3.out.lt; omega).trans (Shown.five w2 (S := Lo (w.heap.size + 2)) (show Lo (w.heap.size + 2) (w.heap.size + 1) from Nat.lt_succ_self _) _ _ _ _ _)) (by rw [set5_size]; exact Nat.le_refl _)
    show Code.wp _ _ _ _ (set5 w2 (w.heap.size + 1) (.int .i64 k9) (.int .i64 n8) (.int .i64 d9) (.string s9) (.slice o9 len9 cap9))
    generalize set5 w2 (w.heap.size + 1) (.int .i64 k9) (.int .i64 n8) (.int .i64 d9) (.string s9) (.slice o9 len9 cap9) = W4 at hpb4 hg4 ht4 hx4 he4 hy4 ⊢
    have u2 := hpb4.cell 2 rfl
    have ul := hpb4.lt
    have HP4 := Lib.hid hpb4
    have HG4 := Lib.hid hg4
    have HT4 := Lib.hid ht4
    have HX4 := Lib.hid hx4
    have HE4 := Lib.hid he4
    have HY4 := Lib.hid hy4
    clear hpb4 hg4 ht4 hx4 he4 hy4 p0 p1 p2 p3 p4 z0 z1 z2 z3 z4 pl HREP HRB2 HT2 HE2
    cases hD : Rd.D t1 with
    | bad q =>
     have hm9 := HF2.out
     rw [hD] at hm9
     obtain rfl : m9 = ((s.size - q.length : Nat) : Int) := hm9
     have hlt9 : decide ((((s.size - q.length : Nat) : Int)) < 0) = false := by simp
     have HF := Lib.hid (show Rd.S true false t = .bad q from by rw [HS2.out]; unfold Rd.pointF; rw [hD]; rfl)
     clear hD
     go_wp2_with fail
     go_roundg 0
     case measure => omega
     case rel => exact Lib.hid ⟨l0, y, k9, n8, d9, s9, o9, len9, cap9, a9, _, HP4.out, HG4.out, HT4.out, HX4.out, HE4.out, HY4.out, .inr (.inr ⟨q, rfl, HF.out, by omega⟩)⟩
    | ok z q =>
     have hm9 := HF2.out
     rw [hD] at hm9
     obtain ⟨rfl, rfl, rfl⟩ := hm9
     have hqs := HGD.out
     rw [hD] at hqs
     have hqa : Rd.At s (s.size - q.length) q := HQ1.out.suf hqs.1
     have hC := rnext_any b s _ (-1) q W4 HP4.out hqa hs
     have hq3 := hqa.suf (Rd.skip_suf q false)
     have HSP := Lib.hid (show Rd.S true false t = Rd.pre l0 (Rd.shutF y q) from by rw [HS2.out]; unfold Rd.pointF; rw [hD])
     have hlq : q.length < t1.length := hqs.2
     clear hD hqs
     by_cases h41 : ∃ t2, Rd.skip false q = 41 :: t2
     ·obtain ⟨t2, ht2⟩ := h41
      rw [ht2] at hC hq3
      have HC2 := Lib.hid hC
      have HF := Lib.hid (show Rd.S true false t = .ok (l0, y) t2 from by rw [HSP.out]; unfold Rd.shutF; rw [ht2]; simp [Rd.pre, Rd.Res.map])
      have HQ3 := Lib.hid hq3
      have HSK := Lib.hid (skip_fix _ _ _ _ ht2)
      clear hC hqa hq3 ht2
      go_wp2_with (first | (go_at_call 41; refine HC2.out.mono ?_; rintro e' w5 ⟨rfl, hr5, ht5⟩; have HR5 := Lib.hid hr5; have HT5 := Lib.hid ht5; clear hr5 ht5))
      go_roundg 1
      case measure => omega
      case rel => exact Lib.hid ⟨l0, y, k9, n8, d9, s9, o9, len9, cap9, _, _, HR5.out, HG4.out.turned HT5.out (LOW.out _), HT4.out.next HT5.out, (HT5.out.block _ HX4.out.lt hne).trans HX4.out, (HT5.out.block _ HE4.out.lt hnb1).trans HE4.out, rep_turn HY4.out HT5.out hbk, .inr (.inl ⟨41 :: t2, t2, rfl, HQ3.out, HSK.out, HF.out, Nat.le_refl _, by omega⟩)⟩
     ·obtain ⟨r3, hr3⟩ : ∃ r3, Rd.skip false q = r3 := ⟨_, rfl⟩
      rw [hr3] at hC hq3 h41
      obtain ⟨hd3, hhd3⟩ : ∃ hd, r3.headD 0 = hd := ⟨_, rfl⟩
      rw [hhd3] at hC
      have q413 : ((hd3.toNat : Int) != 41) = true := by
       rw [bne, show ((hd3.toNat : Int) == 41) = decide (hd3 = 41) from u8_eq hd3 41]
       rw [decide_eq_false]
       ·rfl
       ·intro e
        cases r3 with
        | nil => rw [← hhd3] at e; exact absurd e (by decide)
        | cons c t' => rw [← hhd3] at e; exact h41 ⟨t', by rw [show c = 41 from e]⟩
      have HF := Lib.hid (show Rd.S true false t = .bad r3 from by
       rw [HSP.out]; unfold Rd.shutF; rw [hr3]
       cases r3 with
       | nil => rfl
       | cons c t' => simp only; rw [if_neg (fun e => h41 ⟨t', by rw [e]⟩)]; rfl)
      obtain ⟨k3, hk3⟩ : ∃ k3, s.size - r3.length = k3 := ⟨_, rfl⟩
      rw [hk3] at hC
      have HK3 := Lib.hid hk3
      have HC2 := Lib.hid hC
      have HFL := Lib.hid (fun (W : World) (hW : RB W b s k3 (-1)) => rfail_any b s k3 (-1) (k3 : Int) W hW)
      clear hC hqa hq3 hr3 h41 hhd3 hk3
      go_wp2_with (first | (go_at_call 41; refine HC2.out.mono ?_; rintro e' w5 ⟨rfl, hr5, ht5⟩; have x1 := hr5.cell 1 rfl; have xl := hr5.lt; have HR5 := Lib.hid hr5; have HT5 := Lib.hid ht5; clear hr5 ht5) | (go_at_call 43; refine (HFL.out _ HR5.out).mono ?_; rintro e' w6 ⟨rfl, hr6, ht6⟩; have HR6 := Lib.hid hr6; have HT6 := Lib.hid (HT5.out.next ht6); clear hr6 ht6))
      go_roundg 0
      case measure => omega
      case rel => exact Lib.hid ⟨l0, y, k9, n8, d9, s9, o9, len9, cap9, _, _, by have := HR6.out; rw [if_pos (by decide)] at this; exact this, HG4.out.turned HT6.out (LOW.out _), HT4.out.next HT6.out, (HT6.out.block _ HX4.out.lt hne).trans HX4.out, (HT6.out.block _ HE4.out.lt hnb1).trans HE4.out, rep_turn HY4.out HT6.out hbk, .inr (.inr ⟨r3, by rw [HK3.out], HF.out, by omega⟩)⟩
   ·have hvar : (((hd.toNat : Int) == 46) = false) ∨ (((hd.toNat : Int) == 46) = true ∧ p = false) ∨ (((hd.toNat : Int) == 46) = true ∧ p = true ∧ decide (0 < (len3 : Int)) = false ∧ decide (0 < len3) = false) := by
     by_cases h46 : hd = 46
     ·right
      rw [q46, decide_eq_true h46]
      cases p with
      | false => exact .inl ⟨rfl, rfl⟩
      | true =>
       refine .inr ⟨rfl, rfl, ?_⟩
       cases r2 with
       | nil => rw [← hhd] at h46; exact absurd h46 (by decide)
       | cons c t1 =>
        have hc : c = 46 := by rw [← hhd] at h46; exact h46
        cases l0 with
        | nil => have := HLN.out; simp only [List.length_nil] at this; constructor <;> simp [this]
        | cons y l => exact (hpt ⟨t1, by rw [hc], rfl, rfl⟩).elim
     ·left; rw [q46, decide_eq_false h46]
    have hS2 : Rd.S p false t = Rd.pre l0 (Rd.oneF Rd.D (Rd.S p true) r2) := by
     rw [hS, Rd.S_item' hsk h41 (fun t' ht hh => hpt ⟨t', ht, hh.1, by have := hh.2; cases hz : l0.isEmpty with
      | false => rfl
      | true => rw [hz] at this; cases this⟩)]
    have HS2 := Lib.hid hS2
    have HCL := Lib.hid (fun (W : World) (dp' : Int) (hW : RB W b s kp (-1)) => H b s kp r2 W dp' (by omega) hW HQA.out hs)
    have hl0 : l0.length ≤ 1000000 := by omega
    clear hS2 hS hsk h41 hpt q46 hhd
    rcases hvar with hv1 | ⟨hv1, rfl⟩ | ⟨hv1, rfl, hv2, hv3⟩
    all_goals
     go_upto_region 5 with (first | (go_at_call 41; refine HC.out.mono ?_; rintro e' w1 ⟨rfl, hr1, ht1⟩; have d1 := hr1.cell 1 rfl; have d2 := hr1.free 1; have d3 := hr1.lt; have HR1 := Lib.hid hr1; have HT1 := Lib.hid ht1; clear hr1 ht1))
     go_upto_region 13 with fail
     go_wp2_with (first | (go_at_call 42; refine (HCL.out _ _ HR1.out).mono ?_; rintro e' w2 ⟨y, k9, n8, d9, s9, o9, len9, cap9, a9, m9, rfl, hrep, hrb, ht2, hf⟩; have HREP := Lib.hid hrep; have HRB2 := Lib.hid hrb; have HT2 := Lib.hid ht2; have HF2 := Lib.hid hf; clear hrep hrb ht2 hf) | (at_builtin; refine wpList_grow rfl (.tmp 67) (.tmp 72) rfl (w.heap.size + 2) (w.heap.size + 2) w1.heap.size _ l0 y _ _ _ _ _ rfl ((HG.out.turned HT1.out (LOW.out _)).turned HT2.out (LOW.out _)) HREP.out (Nat.le_trans hk1 HT1.out.size) (fun g hg => ((HG.out.turned HT1.out (LOW.out _)).block hg).2) hl0 (Nat.le_trans hk1 (Nat.le_trans HT1.out.size HT2.out.size)) rfl ?_))
     intro g cap7 w3 hg3 ht3
     have hrow : ∀ q, (Value.slice o3 len3 cap3).ownBlock = some q → w.heap.size + 1 < q := fun q hq => (HG.out.block hq).1
     have HT6 := Lib.hid (((HTW.out.next HT1.out).next HT2.out).trans ht3 (fun q hq hs => by have := hrow q hs; omega))
     have HPB := Lib.hid (show RB w3 b s a9 m9 from ht3.box HRB2.out (fun hq => by have := hrow b hq; omega))
     have HB9 := Lib.hid (show Box5 w3 w.heap.size 33 (.int .i64 0) (.int .i64 0) (.int .i64 0) (.string ⟨#[]⟩) (.slice none 0 0) from (ht3.block _ (Nat.lt_of_lt_of_le HBX.out.lt (Nat.le_trans HT1.out.size HT2.out.size)) (fun hq => by have := hrow _ hq; omega)).trans ((HT2.out.block _ (Nat.lt_of_lt_of_le HBX.out.lt HT1.out.size) hne).trans ((HT1.out.block _ HBX.out.lt hne).trans HBX.out)))
     have HE9 := Lib.hid (show Box5 w3 (w.heap.size + 1) 33 (.int .i64 k) (.int .i64 n9) (.int .i64 d) (.string st) (.slice o len cap) from (ht3.block _ (Nat.lt_of_lt_of_le hk1 (Nat.le_trans HT1.out.size HT2.out.size)) (fun hq => by have := hrow _ hq; omega)).trans ((HT2.out.block _ (Nat.lt_of_lt_of_le hk1 HT1.out.size) hnb1).trans ((HT1.out.block _ hk1 hnb1).trans HBE.out)))
     have HRX9 := Lib.hid (show RepD (hide w3 (Lo (w.heap.size + 2))) w3.heap.size Dat.null (.agg #[.int .i64 k, .int .i64 n9, .int .i64 d, .string st, .slice o len cap]) from rep_leaf_any HRX.out)
     have HG3 := Lib.hid hg3
     clear hg3 ht3 hrow d1 d2 d3
     go_wp2_with fail
     go_roundg (r2.length + 1)
     case measure => omega
     case rel => exact Lib.hid ⟨l0 ++ [y], Dat.null, k, n9, d, st, o, len, cap, a9, m9, HPB.out, HG3.out, HT6.out, HB9.out, HE9.out, HRX9.out, dst_item HQA.out HS2.out HF2.out hlt1 hlen⟩
  ·have hd0 : decide ((((s.size - q.length : Nat) : Int)) < 0) = false := by simp
   have HS := Lib.hid hS
   obtain ⟨q0', q1, q2, q3, q4⟩ := hbe.cells
   obtain ⟨v0, v1, v2, v3, v4⟩ := hbx.cells
   obtain ⟨y0, y1, y2, y3, y4⟩ := hbx.free
   have gl3 := hbx.lt
   clear hS hrb hbx hbe hst
   go_wp2_with fail
   go_region
   all_goals go_wp2_with fail
   all_goals
    have HR6 := Lib.hid (HBX.out.set (.int .i64 k) (.int .i64 n9) (.int .i64 d) (.string st) (.slice o len cap))
    obtain ⟨r0, r1, r2, r3, r4⟩ := HR6.out.cells
    refine bodyPost_ret (v := .tuple #[.slice o3 len3 cap3, .agg #[.int .i64 k, .int .i64 n9, .int .i64 d, .string st, .slice o len cap]]) (by simp [results, Tryz.results82, go_sem, r0, r1, r2, r3, r4]) rfl ?_
    rw [HS.out]
    exact (rseq_fin hne HRB.out HG.out HTW.out HRX.out (show RFits s (Rd.Res.bad q) (l0, x) a1 _ from rfl)).drew
end
section
open Go Go.RowKit
theorem runi_fin {b : Nat} {s : ByteArray} {res : Rd.Res Dat} {w W1 w2 : World} {x : Dat} {k9 n9 d9 : Int} {s9 : ByteArray} {o9 : Option Addr} {len9 cap9 a9 : Nat} {m9 : Int} (hT : Turned (fun c => c = b) w W1) (hlt : w.heap.size < W1.heap.size) (hne : w.heap.size ≠ b)
  (hrep : RepD (hide w2 (Lo W1.heap.size)) w2.heap.size x (.agg #[.int .i64 k9, .int .i64 n9, .int .i64 d9, .string s9, .slice o9 len9 cap9])) (hrb : RB w2 b s a9 m9) (ht : Turned (fun c => c = b) W1 w2) (hf : RFits s res x a9 m9) :
  RUni b s res w (.returned (.agg #[.int .i64 k9, .int .i64 n9, .int .i64 d9, .string s9, .slice o9 len9 cap9])) (set5 w2 w.heap.size (.int .i64 k9) (.int .i64 n9) (.int .i64 d9) (.string s9) (.slice o9 len9 cap9)) := by
 refine ⟨x, k9, n9, d9, s9, o9, len9, cap9, a9, m9, rfl, hrep.shown ((Shown.five w2 (S := Lo W1.heap.size) hlt _ _ _ _ _).trans (Shown.less _ fun q _ hq => by unfold Lo at hq ⊢; omega)) (by rw [set5_size]; exact Nat.le_refl _), ?_, turned_low (hT.next ht) (set5_below _ _ _ _ _ _ _ _ (Nat.le_refl _)), hf⟩
 exact (set5_heap _ _ _ _ _ _ _ (Ne.symm hne)).trans hrb
theorem runi_fin2 {b : Nat} {s : ByteArray} {res : Rd.Res Dat} {w w2 : World} {x : Dat} {E : Nat} {k9 n9 d9 : Int} {s9 : ByteArray} {o9 : Option Addr} {len9 cap9 a9 : Nat} {m9 : Int} (hT : Turned (fun c => c = b) w w2) (hlt : w.heap.size < E) (hne : w.heap.size ≠ b)
  (hrep : RepD (hide w2 (Lo E)) w2.heap.size x (.agg #[.int .i64 k9, .int .i64 n9, .int .i64 d9, .string s9, .slice o9 len9 cap9])) (hrb : RB w2 b s a9 m9) (hf : RFits s res x a9 m9) :
  RUni b s res w (.returned (.agg #[.int .i64 k9, .int .i64 n9, .int .i64 d9, .string s9, .slice o9 len9 cap9])) (set5 w2 w.heap.size (.int .i64 k9) (.int .i64 n9) (.int .i64 d9) (.string s9) (.slice o9 len9 cap9)) := by
 refine ⟨x, k9, n9, d9, s9, o9, len9, cap9, a9, m9, rfl, hrep.shown ((Shown.five w2 (S := Lo E) hlt _ _ _ _ _).trans (Shown.less _ fun q _ hq => by unfold Lo at hq ⊢; omega)) (by rw [set5_size]; exact Nat.le_refl _), ?_, turned_low hT (set5_below _ _ _ _ _ _ _ _ (Nat.le_refl _)), hf⟩
 exact (set5_heap _ _ _ _ _ _ _ (Ne.symm hne)).trans hrb
theorem rfail_un (b : Nat) (s : ByteArray) (a : Nat) (q : List UInt8) (W : World) (hp : RB W b s a (-1)) (p : Int) (hq : p = ((s.size - q.length : Nat) : Int)) :
  Calls Tryz.prog 43 #[.pointer (some ⟨b, 0, none⟩), .int .i64 p] W (RUni b s (.bad q : Rd.Res Dat) W) := by
 refine (rfail_any b s a (-1) p W hp).mono ?_
 rintro e w' ⟨rfl, h2, h3⟩
 rw [if_pos (by decide)] at h2
 exact ⟨.mk 4 0 0 ⟨#[]⟩ [], 4, 0, 0, ⟨#[]⟩, none, 0, 0, a, p, rfl, RepD.shut (by omega) (by omega) (by omega) (by decide) ⟨none, 0, 0, rfl, rfl, by omega, by omega, rfl, rfl⟩, h2, h3, hq⟩
def LoE (K E b : Nat) : Prop := b < K ∨ b = E
def TailR (b : Nat) (s : ByteArray) (K E a' : Nat) (m : Int) (w : World) (l0 : List Dat) (y : Dat) (lv : Value) (j : Nat) (wt : World) : Prop := Hid (∃ (z : Dat) (k n d : Int) (st : ByteArray) (o : Option Addr) (len cap : Nat), RB wt b s a' m ∧ RepS (hide wt (LoE K E)) wt.heap.size l0 lv ∧ Turned (fun c => c = b) w wt ∧ Box5 wt w.heap.size 33 (.int .i64 0) (.int .i64 0) (.int .i64 0) (.string ⟨#[]⟩) (.slice none 0 0) ∧
 Box5 wt E 33 (.int .i64 k) (.int .i64 n) (.int .i64 d) (.string st) (.slice o len cap) ∧ RepD (hide wt (LoE K E)) wt.heap.size z (.agg #[.int .i64 k, .int .i64 n, .int .i64 d, .string st, .slice o len cap]) ∧ (l0.take j).foldr Dat.pair z = Rd.chain (l0, y))
theorem TailR.drew {b : Nat} {s : ByteArray} {K E a' : Nat} {m : Int} {w : World} {l0 : List Dat} {y : Dat} {lv : Value} {j : Nat} {wt : World} (h : TailR b s K E a' m w l0 y lv j wt) : TailR b s K E a' m w l0 y lv j wt.drew := by
 obtain ⟨z, k, n, d, st, o, len, cap, h1, h2, h3, h4, h5, h6, h7⟩ := h.out
 exact Lib.hid ⟨z, k, n, d, st, o, len, cap, h1, h2.shown (Shown.below (Below.selfN wt 1)) (Nat.le_refl _), h3.next (Turned.of_below (Below.selfN wt 1)), h4, h5, h6.shown (Shown.below (Below.selfN wt 1)) (Nat.le_refl _), h7⟩
theorem RepS.len {w : World} {B : Nat} {l : List Dat} {o : Option Addr} {len cap : Nat} (h : RepS w B l (.slice o len cap)) : len = l.length := by
 obtain ⟨o5, len5, cap5, he5, hl5, _⟩ := h
 simp only [Value.slice.injEq] at he5
 obtain ⟨rfl, rfl, rfl⟩ := he5
 exact hl5
theorem RepS.bound {w : World} {B : Nat} {l : List Dat} {o : Option Addr} {len cap : Nat} (h : RepS w B l (.slice o len cap)) : len ≤ 9223372036854775807 := by
 obtain ⟨o5, len5, cap5, he5, hl5, h1, h2, _⟩ := h
 simp only [Value.slice.injEq] at he5
 obtain ⟨rfl, rfl, rfl⟩ := he5
 omega
theorem shown_box {w : World} {K : Nat} (cs : Obj) (_hK : K ≤ w.heap.size) : Shown w (Lo K) (w.alloc cs) (LoE K w.heap.size) := fun c o u hc hu => by
 have hlt := cell_lt hu
 exact ⟨fun h => h.elim hc (fun e => by omega), (World.cell?_alloc_past _ _ _ hlt).trans hu⟩
theorem rdatum_step (n : Nat) (HDAT : RDatOk n) (HSEQ : RSeqOk n) (b : Nat) (s : ByteArray) (a : Nat) (r : List UInt8) (w : World) (dp : Int) (hr : r.length < n + 1) (hp : RB w b s a (-1)) (hat : Rd.At s a r) (hs : s.size ≤ 65536) :
  Calls Tryz.prog 42 #[.pointer (some ⟨b, 0, none⟩), .int .i64 dp] w (RUni b s (Rd.D r) w) := by
 have hb := hp.lt
 have hne : w.heap.size ≠ b := by omega
 obtain ⟨W0, hW0⟩ : ∃ W0, w.alloc (.cells #[.int .i64 0, .int .i64 0, .int .i64 0, .string ⟨#[]⟩, .slice none 0 0] 33) = W0 := ⟨_, rfl⟩
 have HW0 := Lib.hid hW0
 have HB0 := Lib.hid (show Box5 W0 w.heap.size 33 (.int .i64 0) (.int .i64 0) (.int .i64 0) (.string ⟨#[]⟩) (.slice none 0 0) from by rw [← hW0]; exact Box5.new w _ _ _ _ _ _)
 have HP0 := Lib.hid (show RB W0 b s a (-1) from by rw [← hW0]; exact BoxL.alloc hp _)
 have HT0 := Lib.hid (show Turned (fun c => c = b) w W0 from by rw [← hW0]; exact Turned.of_below (Below.one _ _))
 clear hW0
 have hC := rnext_any b s a (-1) r W0 HP0.out hat hs
 have hq := hat.suf (Rd.skip_suf r false)
 have hql := Rd.skip_le r false
 have hD := Rd.D_eq r
 unfold Rd.datF at hD
 obtain ⟨k, hk⟩ : ∃ k, s.size - (Rd.skip false r).length = k := ⟨_, rfl⟩
 rw [hk] at hC
 have hks : k ≤ s.size := by omega
 cases hsk : Rd.skip false r with
 | nil =>
  rw [hsk] at hC hD hk
  have hkn : k = s.size := by simpa using hk.symm
  have heq : ((k : Int) == (s.size : Int)) = true := by simp; omega
  have HC := Lib.hid hC
  have HD := Lib.hid hD
  have HK := Lib.hid (show (k : Int) = ((s.size - ([] : List UInt8).length : Nat) : Int) from by rw [hk])
  clear hp hat hC hq hql hD hsk hk hkn
  go_enter Tryz.func42, Tryz.ntmps42
  go_upto_region 1 with fail
  rw [HW0.out]
  go_upto_region 2 with (first | (go_at_call 41; refine HC.out.mono ?_; rintro e' w1 ⟨rfl, hr1, ht1⟩; have c0 := hr1.cell 0 rfl; have c1 := hr1.cell 1 rfl; have hl := hr1.lt; have HP9 := Lib.hid hr1; have HT := Lib.hid ht1; clear hr1 ht1))
  go_quiet (fail)
  have hp1 : RB (w1.drewN nq) b s k (-1) := RB.drewN HP9.out _
  have ht1 : Turned (fun c => c = b) w (w1.drewN nq) := HT0.out.next (HT.out.next (Turned.of_below (Below.selfN _ _)))
  have hb1 : Box5 (w1.drewN nq) w.heap.size 33 (.int .i64 0) (.int .i64 0) (.int .i64 0) (.string ⟨#[]⟩) (.slice none 0 0) := (HT.out.block _ HB0.out.lt hne).trans HB0.out
  generalize w1.drewN nq = W1 at hp1 ht1 hb1 ⊢
  have HP1 := Lib.hid hp1
  have HT1 := Lib.hid ht1
  have HB1 := Lib.hid hb1
  have hl1 := hb1.lt
  clear hp1 ht1 hb1 c0 c1 hl
  have f1 := HP1.out.cell 1 rfl
  have fl := HP1.out.lt
  go_wp2_with (first | (go_at_call 78; refine (HM.out _).mono ?_; rintro e' w5 ⟨rfl, rfl⟩) | (go_at_call 43; refine (rfail_un b s k [] _ HP1.out _ HK.out).mono ?_; rintro e' w2 ⟨x, k9, n9, d9, s9, o9, len9, cap9, a9, m9, rfl, hrep, hrb, ht2, hf⟩; have hb2 : Box5 w2 w.heap.size 33 (.int .i64 0) (.int .i64 0) (.int .i64 0) (.string ⟨#[]⟩) (.slice none 0 0) := (ht2.block _ HB1.out.lt hne).trans HB1.out; obtain ⟨p0, p1, p2, p3, p4⟩ := hb2.cells; obtain ⟨z0, z1, z2, z3, z4⟩ := hb2.free; have pl := hb2.lt; have HB2 := Lib.hid hb2; have HREP := Lib.hid hrep; have HRB2 := Lib.hid hrb; have HT2 := Lib.hid ht2; have HF2 := Lib.hid hf; clear hb2 hrep hrb ht2 hf))
  have HR5 := Lib.hid (HB2.out.set (.int .i64 k9) (.int .i64 n9) (.int .i64 d9) (.string s9) (.slice o9 len9 cap9))
  obtain ⟨r0, r1, r2, r3, r4⟩ := HR5.out.cells
  refine bodyPost_ret (v := .agg #[.int .i64 k9, .int .i64 n9, .int .i64 d9, .string s9, .slice o9 len9 cap9]) (by simp [results, Tryz.results42, go_sem, r0, r1, r2, r3, r4]) rfl ?_
  rw [HD.out]
  exact runi_fin HT1.out hl1 hne HREP.out HRB2.out HT2.out HF2.out
 | cons c t =>
  rw [hsk] at hC hD hq hql hk
  simp only [List.length_cons] at hql
  have heq : ((k : Int) == (s.size : Int)) = false := by have := hq.1; simp only [List.length_cons] at this hk; simp; omega
  have HC := Lib.hid hC
  have HD0 := (show Rd.D r = Rd.headF Rd.D Rd.S c t from hD)
  unfold Rd.headF at HD0
  have HK := Lib.hid (show (k : Int) = ((s.size - (c :: t).length : Nat) : Int) from by rw [hk])
  have HQ := Lib.hid (show Rd.At s k (c :: t) from by rw [← hk]; exact hq)
  have htn : t.length < n := by omega
  have q34 : ((c.toNat : Int) == 34) = decide (c = 34) := u8_eq c 34
  have q39 : ((c.toNat : Int) == 39) = decide (c = 39) := u8_eq c 39
  have q35 : ((c.toNat : Int) == 35) = decide (c = 35) := u8_eq c 35
  have q40 : ((c.toNat : Int) == 40) = decide (c = 40) := u8_eq c 40
  have hADD3 : ((k : Int) + 1) = ((k + 1 : Nat) : Int) := by omega
  have HADD3 := Lib.hid hADD3
  clear hp hat hC hq hql hD hsk hk hADD3
  by_cases hm : Rd.mark c = true
  ·rw [if_pos hm] at HD0
   have HD := Lib.hid HD0
   have HM := Lib.hid (show ∀ W, Calls Tryz.prog 78 #[.int .u8 c.toNat] W fun e w' => e = .returned (.bool true) ∧ w' = W from fun W => by have := rmark_any c W; rw [hm] at this; exact this)
   clear HD0 hm q34 q39 q35 q40
   go_enter Tryz.func42, Tryz.ntmps42
   go_upto_region 1 with fail
   rw [HW0.out]
   go_upto_region 2 with (first | (go_at_call 41; refine HC.out.mono ?_; rintro e' w1 ⟨rfl, hr1, ht1⟩; have c0 := hr1.cell 0 rfl; have c1 := hr1.cell 1 rfl; have hl := hr1.lt; have HP9 := Lib.hid hr1; have HT := Lib.hid ht1; clear hr1 ht1))
   go_quiet (fail)
   have hp1 : RB (w1.drewN nq) b s k (-1) := RB.drewN HP9.out _
   have ht1 : Turned (fun c => c = b) w (w1.drewN nq) := HT0.out.next (HT.out.next (Turned.of_below (Below.selfN _ _)))
   have hb1 : Box5 (w1.drewN nq) w.heap.size 33 (.int .i64 0) (.int .i64 0) (.int .i64 0) (.string ⟨#[]⟩) (.slice none 0 0) := (HT.out.block _ HB0.out.lt hne).trans HB0.out
   generalize w1.drewN nq = W1 at hp1 ht1 hb1 ⊢
   have HP1 := Lib.hid hp1
   have HT1 := Lib.hid ht1
   have HB1 := Lib.hid hb1
   have hl1 := hb1.lt
   clear hp1 ht1 hb1 c0 c1 hl
   have f1 := HP1.out.cell 1 rfl
   have fl := HP1.out.lt
   go_wp2_with (first | (go_at_call 78; refine (HM.out _).mono ?_; rintro e' w5 ⟨rfl, rfl⟩) | (go_at_call 79; refine ((rword_any b s k (c :: t) _ HP1.out HQ.out hs).mono fun e w' h => h.uni).mono ?_; rintro e' w2 ⟨x, k9, n9, d9, s9, o9, len9, cap9, a9, m9, rfl, hrep, hrb, ht2, hf⟩; have hb2 : Box5 w2 w.heap.size 33 (.int .i64 0) (.int .i64 0) (.int .i64 0) (.string ⟨#[]⟩) (.slice none 0 0) := (ht2.block _ HB1.out.lt hne).trans HB1.out; obtain ⟨p0, p1, p2, p3, p4⟩ := hb2.cells; obtain ⟨z0, z1, z2, z3, z4⟩ := hb2.free; have pl := hb2.lt; have HB2 := Lib.hid hb2; have HREP := Lib.hid hrep; have HRB2 := Lib.hid hrb; have HT2 := Lib.hid ht2; have HF2 := Lib.hid hf; clear hb2 hrep hrb ht2 hf))
   have HR5 := Lib.hid (HB2.out.set (.int .i64 k9) (.int .i64 n9) (.int .i64 d9) (.string s9) (.slice o9 len9 cap9))
   obtain ⟨r0, r1, r2, r3, r4⟩ := HR5.out.cells
   refine bodyPost_ret (v := .agg #[.int .i64 k9, .int .i64 n9, .int .i64 d9, .string s9, .slice o9 len9 cap9]) (by simp [results, Tryz.results42, go_sem, r0, r1, r2, r3, r4]) rfl ?_
   rw [HD.out]
   exact runi_fin HT1.out hl1 hne HREP.out HRB2.out HT2.out HF2.out
  rw [if_neg hm] at HD0
  have HM := Lib.hid (show ∀ W, Calls Tryz.prog 78 #[.int .u8 c.toNat] W fun e w' => e = .returned (.bool false) ∧ w' = W from fun W => by have := rmark_any c W; rw [Bool.eq_false_iff.2 hm] at this; exact this)
  clear hm
  by_cases h34 : c = 34
  ·rw [decide_eq_true h34] at q34
   rw [if_pos h34] at HD0
   have HD := Lib.hid HD0
   have HQ2 := Lib.hid (show Rd.At s k (34 :: t) from h34 ▸ HQ.out)
   clear HD0 h34
   go_enter Tryz.func42, Tryz.ntmps42
   go_upto_region 1 with fail
   rw [HW0.out]
   go_upto_region 2 with (first | (go_at_call 41; refine HC.out.mono ?_; rintro e' w1 ⟨rfl, hr1, ht1⟩; have c0 := hr1.cell 0 rfl; have c1 := hr1.cell 1 rfl; have hl := hr1.lt; have HP9 := Lib.hid hr1; have HT := Lib.hid ht1; clear hr1 ht1))
   go_quiet (fail)
   have hp1 : RB (w1.drewN nq) b s k (-1) := RB.drewN HP9.out _
   have ht1 : Turned (fun c => c = b) w (w1.drewN nq) := HT0.out.next (HT.out.next (Turned.of_below (Below.selfN _ _)))
   have hb1 : Box5 (w1.drewN nq) w.heap.size 33 (.int .i64 0) (.int .i64 0) (.int .i64 0) (.string ⟨#[]⟩) (.slice none 0 0) := (HT.out.block _ HB0.out.lt hne).trans HB0.out
   generalize w1.drewN nq = W1 at hp1 ht1 hb1 ⊢
   have HP1 := Lib.hid hp1
   have HT1 := Lib.hid ht1
   have HB1 := Lib.hid hb1
   have hl1 := hb1.lt
   clear hp1 ht1 hb1 c0 c1 hl
   have f1 := HP1.out.cell 1 rfl
   have fl := HP1.out.lt
   go_wp2_with (first | (go_at_call 78; refine (HM.out _).mono ?_; rintro e' w5 ⟨rfl, rfl⟩) | (go_at_call 80; refine ((rstr_any b s k t _ HP1.out HQ2.out hs).mono fun e w' h => h.uni).mono ?_; rintro e' w2 ⟨x, k9, n9, d9, s9, o9, len9, cap9, a9, m9, rfl, hrep, hrb, ht2, hf⟩; have hb2 : Box5 w2 w.heap.size 33 (.int .i64 0) (.int .i64 0) (.int .i64 0) (.string ⟨#[]⟩) (.slice none 0 0) := (ht2.block _ HB1.out.lt hne).trans HB1.out; obtain ⟨p0, p1, p2, p3, p4⟩ := hb2.cells; obtain ⟨z0, z1, z2, z3, z4⟩ := hb2.free; have pl := hb2.lt; have HB2 := Lib.hid hb2; have HREP := Lib.hid hrep; have HRB2 := Lib.hid hrb; have HT2 := Lib.hid ht2; have HF2 := Lib.hid hf; clear hb2 hrep hrb ht2 hf))
   have HR5 := Lib.hid (HB2.out.set (.int .i64 k9) (.int .i64 n9) (.int .i64 d9) (.string s9) (.slice o9 len9 cap9))
   obtain ⟨r0, r1, r2, r3, r4⟩ := HR5.out.cells
   refine bodyPost_ret (v := .agg #[.int .i64 k9, .int .i64 n9, .int .i64 d9, .string s9, .slice o9 len9 cap9]) (by simp [results, Tryz.results42, go_sem, r0, r1, r2, r3, r4]) rfl ?_
   rw [HD.out]
   exact runi_fin HT1.out hl1 hne HREP.out HRB2.out HT2.out HF2.out
  rw [decide_eq_false h34] at q34
  rw [if_neg h34] at HD0
  by_cases h39 : c = 39
  ·rw [decide_eq_true h39] at q39
   rw [if_pos h39] at HD0
   have HD := Lib.hid HD0
   have hq1 : Rd.At s (k + 1) t := HQ.out.cons
   have HCL := Lib.hid (fun (W : World) (dp' : Int) (hW : RB W b s (k + 1) (-1)) => HDAT b s (k + 1) t W dp' htn hW hq1 hs)
   clear HD0 h34 h39 hq1
   go_enter Tryz.func42, Tryz.ntmps42
   go_upto_region 1 with fail
   rw [HW0.out]
   go_upto_region 2 with (first | (go_at_call 41; refine HC.out.mono ?_; rintro e' w1 ⟨rfl, hr1, ht1⟩; have c0 := hr1.cell 0 rfl; have c1 := hr1.cell 1 rfl; have hl := hr1.lt; have HP9 := Lib.hid hr1; have HT := Lib.hid ht1; clear hr1 ht1))
   go_quiet (fail)
   have hp1 : RB (w1.drewN nq) b s k (-1) := RB.drewN HP9.out _
   have ht1 : Turned (fun c => c = b) w (w1.drewN nq) := HT0.out.next (HT.out.next (Turned.of_below (Below.selfN _ _)))
   have hb1 : Box5 (w1.drewN nq) w.heap.size 33 (.int .i64 0) (.int .i64 0) (.int .i64 0) (.string ⟨#[]⟩) (.slice none 0 0) := (HT.out.block _ HB0.out.lt hne).trans HB0.out
   generalize w1.drewN nq = W1 at hp1 ht1 hb1 ⊢
   have HP1 := Lib.hid hp1
   have HT1 := Lib.hid ht1
   have HB1 := Lib.hid hb1
   have hl1 := hb1.lt
   clear hp1 ht1 hb1 c0 c1 hl
   have f1 := HP1.out.cell 1 rfl
   have fl := HP1.out.lt
   have f2 := HP1.out.free 1
   go_upto_region 11 with (first | (go_at_call 78; refine (HM.out _).mono ?_; rintro e' w5 ⟨rfl, rfl⟩))
   rw [HADD3.out]
   have hp3 : RB (w5.setCell ⟨b, 1, none⟩ (.int .i64 ((k + 1 : Nat) : Int))) b s (k + 1) (-1) := RB.at HP1.out _
   have ht3 : Turned (fun c => c = b) w5 (w5.setCell ⟨b, 1, none⟩ (.int .i64 ((k + 1 : Nat) : Int))) := Turned.set _ _ _ rfl
   generalize w5.setCell ⟨b, 1, none⟩ (.int .i64 ((k + 1 : Nat) : Int)) = W3 at hp3 ht3 ⊢
   have HP3 := Lib.hid hp3
   have HT3 := Lib.hid ht3
   clear hp3 ht3 f1 f2 fl
   have hl3 : w.heap.size < W3.heap.size := Nat.lt_of_lt_of_le hl1 HT3.out.size
   go_wp2_with (first | (go_at_call 42; refine (HCL.out _ _ HP3.out).mono ?_; rintro e' w2 ⟨x, k9, n9, d9, s9, o9, len9, cap9, a9, m9, rfl, hrep, hrb, ht2, hf⟩; have HREP0 := Lib.hid hrep; have HRB2 := Lib.hid hrb; have HT2 := Lib.hid ht2; have HF2 := Lib.hid hf; clear hrep hrb ht2 hf) | (go_at_call 23; refine (rlistH_any (Lo (w.heap.size + 1)) [Rd.quoteD, x] _ _ _ (fun q hq => by have := HT2.out.size; simp only [World.size_alloc]; unfold Lo at hq; omega) (repS_two (fun q hq => by have := HT2.out.size; unfold Lo at hq; omega) (RepD.shut (by omega) (by omega) (by omega) (by decide) ⟨none, 0, 0, rfl, rfl, by omega, by omega, rfl, rfl⟩) (HREP0.out.shown (Shown.less _ fun q _ hq => by unfold Lo at hq ⊢; omega) (Nat.le_refl _)) _) (Nat.le_refl _)).mono ?_; rintro e' w6 ⟨v, rfl, hrep, hbl⟩; obtain ⟨k8, n8, d8, s8, o8, len8, cap8, rfl⟩ := agg_of hrep.unhide; have hbl2 : Below w2.heap.size w2 w6 := Below.next (Below.one w2 _) hbl; have hb3 : Box5 w6 w.heap.size 33 (.int .i64 0) (.int .i64 0) (.int .i64 0) (.string ⟨#[]⟩) (.slice none 0 0) := (hbl2.block _ (Nat.lt_of_lt_of_le hl3 HT2.out.size)).trans ((HT2.out.block _ hl3 hne).trans ((HT3.out.block _ hl1 hne).trans HB1.out)); obtain ⟨p0, p1, p2, p3, p4⟩ := hb3.cells; obtain ⟨z0, z1, z2, z3, z4⟩ := hb3.free; have pl := hb3.lt; have HB2 := Lib.hid hb3; have HREP := Lib.hid hrep; have HP6 := Lib.hid (show RB w6 b s a9 m9 from BoxL.keep HRB2.out hbl2); have HT6 := Lib.hid (((HT1.out.next HT3.out).next HT2.out).next (Turned.of_below hbl2)); clear hb3 hrep hbl hbl2))
   have HR5 := Lib.hid (HB2.out.set (.int .i64 k8) (.int .i64 n8) (.int .i64 d8) (.string s8) (.slice o8 len8 cap8))
   obtain ⟨r0, r1, r2, r3, r4⟩ := HR5.out.cells
   refine bodyPost_ret (v := .agg #[.int .i64 k8, .int .i64 n8, .int .i64 d8, .string s8, .slice o8 len8 cap8]) (by simp [results, Tryz.results42, go_sem, r0, r1, r2, r3, r4]) rfl ?_
   rw [HD.out]
   exact runi_fin2 HT6.out (Nat.lt_succ_self _) hne HREP.out HP6.out (HF2.out.map Rd.quoted)
  rw [decide_eq_false h39] at q39
  rw [if_neg h39] at HD0
  by_cases h35 : c = 35
  ·rw [decide_eq_true h35] at q35
   rw [if_pos h35] at HD0
   have HD := Lib.hid HD0
   have HQ2 := Lib.hid (show Rd.At s k (35 :: t) from h35 ▸ HQ.out)
   clear HD0 h34 h39 h35
   go_enter Tryz.func42, Tryz.ntmps42
   go_upto_region 1 with fail
   rw [HW0.out]
   go_upto_region 2 with (first | (go_at_call 41; refine HC.out.mono ?_; rintro e' w1 ⟨rfl, hr1, ht1⟩; have c0 := hr1.cell 0 rfl; have c1 := hr1.cell 1 rfl; have hl := hr1.lt; have HP9 := Lib.hid hr1; have HT := Lib.hid ht1; clear hr1 ht1))
   go_quiet (fail)
   have hp1 : RB (w1.drewN nq) b s k (-1) := RB.drewN HP9.out _
   have ht1 : Turned (fun c => c = b) w (w1.drewN nq) := HT0.out.next (HT.out.next (Turned.of_below (Below.selfN _ _)))
   have hb1 : Box5 (w1.drewN nq) w.heap.size 33 (.int .i64 0) (.int .i64 0) (.int .i64 0) (.string ⟨#[]⟩) (.slice none 0 0) := (HT.out.block _ HB0.out.lt hne).trans HB0.out
   generalize w1.drewN nq = W1 at hp1 ht1 hb1 ⊢
   have HP1 := Lib.hid hp1
   have HT1 := Lib.hid ht1
   have HB1 := Lib.hid hb1
   have hl1 := hb1.lt
   clear hp1 ht1 hb1 c0 c1 hl
   have f1 := HP1.out.cell 1 rfl
   have fl := HP1.out.lt
   go_wp2_with (first | (go_at_call 78; refine (HM.out _).mono ?_; rintro e' w5 ⟨rfl, rfl⟩) | (go_at_call 81; refine (rhash_any n HSEQ b s k t _ dp (Nat.le_of_lt htn) HP1.out HQ2.out hs).mono ?_; rintro e' w2 ⟨x, k9, n9, d9, s9, o9, len9, cap9, a9, m9, rfl, hrep, hrb, ht2, hf⟩; have hb2 : Box5 w2 w.heap.size 33 (.int .i64 0) (.int .i64 0) (.int .i64 0) (.string ⟨#[]⟩) (.slice none 0 0) := (ht2.block _ HB1.out.lt hne).trans HB1.out; obtain ⟨p0, p1, p2, p3, p4⟩ := hb2.cells; obtain ⟨z0, z1, z2, z3, z4⟩ := hb2.free; have pl := hb2.lt; have HB2 := Lib.hid hb2; have HREP := Lib.hid hrep; have HRB2 := Lib.hid hrb; have HT2 := Lib.hid ht2; have HF2 := Lib.hid hf; clear hb2 hrep hrb ht2 hf))
   have HR5 := Lib.hid (HB2.out.set (.int .i64 k9) (.int .i64 n9) (.int .i64 d9) (.string s9) (.slice o9 len9 cap9))
   obtain ⟨r0, r1, r2, r3, r4⟩ := HR5.out.cells
   refine bodyPost_ret (v := .agg #[.int .i64 k9, .int .i64 n9, .int .i64 d9, .string s9, .slice o9 len9 cap9]) (by simp [results, Tryz.results42, go_sem, r0, r1, r2, r3, r4]) rfl ?_
   rw [HD.out]
   exact runi_fin HT1.out hl1 hne HREP.out HRB2.out HT2.out HF2.out
  rw [decide_eq_false h35] at q35
  rw [if_neg h35] at HD0
  by_cases h40 : c = 40
  ·rw [decide_eq_true h40] at q40
   rw [if_pos h40] at HD0
   have HD := Lib.hid HD0
   have hq1 : Rd.At s (k + 1) t := HQ.out.cons
   have HCL := Lib.hid (fun (W : World) (dp' : Int) (hW : RB W b s (k + 1) (-1)) => HSEQ b s (k + 1) t W true dp' htn hW hq1 hs)
   clear HD0 h34 h39 h35 h40 hq1
   go_enter Tryz.func42, Tryz.ntmps42
   go_upto_region 1 with fail
   rw [HW0.out]
   go_upto_region 2 with (first | (go_at_call 41; refine HC.out.mono ?_; rintro e' w1 ⟨rfl, hr1, ht1⟩; have c0 := hr1.cell 0 rfl; have c1 := hr1.cell 1 rfl; have hl := hr1.lt; have HP9 := Lib.hid hr1; have HT := Lib.hid ht1; clear hr1 ht1))
   go_quiet (fail)
   have hp1 : RB (w1.drewN nq) b s k (-1) := RB.drewN HP9.out _
   have ht1 : Turned (fun c => c = b) w (w1.drewN nq) := HT0.out.next (HT.out.next (Turned.of_below (Below.selfN _ _)))
   have hb1 : Box5 (w1.drewN nq) w.heap.size 33 (.int .i64 0) (.int .i64 0) (.int .i64 0) (.string ⟨#[]⟩) (.slice none 0 0) := (HT.out.block _ HB0.out.lt hne).trans HB0.out
   generalize w1.drewN nq = W1 at hp1 ht1 hb1 ⊢
   have HP1 := Lib.hid hp1
   have HT1 := Lib.hid ht1
   have HB1 := Lib.hid hb1
   have hl1 := hb1.lt
   clear hp1 ht1 hb1 c0 c1 hl
   have f1 := HP1.out.cell 1 rfl
   have fl := HP1.out.lt
   have f2 := HP1.out.free 1
   go_upto_region 16 with (first | (go_at_call 78; refine (HM.out _).mono ?_; rintro e' w5 ⟨rfl, rfl⟩))
   rw [HADD3.out]
   have hp3 : RB (w5.setCell ⟨b, 1, none⟩ (.int .i64 ((k + 1 : Nat) : Int))) b s (k + 1) (-1) := RB.at HP1.out _
   have ht3 : Turned (fun c => c = b) w5 (w5.setCell ⟨b, 1, none⟩ (.int .i64 ((k + 1 : Nat) : Int))) := Turned.set _ _ _ rfl
   generalize w5.setCell ⟨b, 1, none⟩ (.int .i64 ((k + 1 : Nat) : Int)) = W3 at hp3 ht3 ⊢
   have HP3 := Lib.hid hp3
   have HT3 := Lib.hid ht3
   clear hp3 ht3 f1 f2 fl
   have hl3 : w.heap.size < W3.heap.size := Nat.lt_of_lt_of_le hl1 HT3.out.size
   go_upto_region 17 with (first | (go_at_call 82; refine (HCL.out _ _ HP3.out).mono ?_; rintro e' w2 ⟨l0, y, o3, len3, cap3, k9, n9, d9, s9, o9, len9, cap9, a9, m9, rfl, hrs, hrep, hrb, ht2, hf⟩))
   have hW3 : w.heap.size < W3.heap.size := hl3
   have hK3 := ht2.size
   have hln := hrs.len
   have HI := Lib.hid (show TailR b s W3.heap.size w2.heap.size a9 m9 w l0 y (.slice o3 len3 cap3) len3 (w2.alloc (.cells #[.int .i64 k9, .int .i64 n9, .int .i64 d9, .string s9, .slice o9 len9 cap9] 33)) from
    Lib.hid ⟨y, k9, n9, d9, s9, o9, len9, cap9, BoxL.alloc hrb _, hrs.shown (shown_box _ hK3) (by simp), ((HT1.out.next HT3.out).next ht2).next (Turned.of_below (Below.one _ _)), Box5.alloc (show Box5 w2 w.heap.size 33 (.int .i64 0) (.int .i64 0) (.int .i64 0) (.string ⟨#[]⟩) (.slice none 0 0) from (ht2.block _ hl3 hne).trans ((HT3.out.block _ hl1 hne).trans HB1.out)) _, Box5.new w2 _ _ _ _ _ _, hrep.shown (shown_box _ hK3) (by simp), by rw [List.take_of_length_le (Nat.le_of_eq hln.symm)]; rfl⟩)
   have HLN := Lib.hid hln
   have HF := Lib.hid hf
   have hEl : w.heap.size < w2.heap.size := Nat.lt_of_lt_of_le hl3 hK3
   have hKE : W3.heap.size ≤ w2.heap.size := hK3
   have hbE : b < w2.heap.size := by omega
   have hlb : len3 ≤ 9223372036854775807 := hrs.bound
   generalize w2.alloc (.cells #[.int .i64 k9, .int .i64 n9, .int .i64 d9, .string s9, .slice o9 len9 cap9] 33) = W4 at HI ⊢
   generalize w2.heap.size = E at HI hEl hKE hbE ⊢
   clear hrs hrep hrb ht2 hf hln HB1 HT1 HP1 HP3 HT3 hl3 hl1 hK3
   go_wp2_with fail
   go_loopg [8] (len3 + 1) (fun g i wt => ∃ (j : Nat), g = j + 1 ∧ j ≤ l0.length ∧ i = .int .i64 ((j : Int) - 1) ∧ TailR b s W3.heap.size E a9 m9 w l0 y (.slice o3 len3 cap3) j wt)
   case atStart => exact ⟨len3, rfl, Nat.le_of_eq HLN.out, rfl, HI.out⟩
   case round =>
    obtain ⟨j, rfl, hj, rfl, hti⟩ := hrel
    obtain ⟨z, ek, en, ed, es, eo, el, ec, hpb, hgr, htn, hbx, hbe, hrz, hch⟩ := hti.out
    clear hti
    obtain ⟨q0', q1, q2, q3, q4⟩ := hbe.cells
    obtain ⟨zz0, zz1, zz2, zz3, zz4⟩ := hbe.free
    have gl2 := hbe.lt
    have HPB := Lib.hid hpb
    have HGR := Lib.hid hgr
    have HTN := Lib.hid htn
    have HBX := Lib.hid hbx
    have HBE := Lib.hid hbe
    have HRZ := Lib.hid hrz
    have HCH := Lib.hid hch
    have hnb : E ≠ b := by omega
    by_cases hjl : 0 < j
    ·obtain ⟨i, rfl⟩ : ∃ i, j = i + 1 := ⟨j - 1, by omega⟩
     obtain ⟨x9, hx9⟩ : ∃ x, l0[i]? = some x := ⟨_, List.getElem?_eq_getElem (by omega)⟩
     have hrs := hgr
     obtain ⟨o5, len5, cap5, he5, hl5, hc5, hm5, hm6⟩ := hrs
     simp only [Value.slice.injEq] at he5
     obtain ⟨rfl, rfl, rfl⟩ := he5
     obtain ⟨bb, off, k', n', d', s', l', o', len', cap', ho, hxe, e0, e1, e2, e3, e4, er⟩ := part_at2 hm6 (Below.refl _ (hide wr (LoE W3.heap.size E))) hx9
     subst ho hxe
     replace e0 := (hide_some e0).2
     replace e1 := (hide_some e1).2
     replace e2 := (hide_some e2).2
     replace e3 := (hide_some e3).2
     replace e4 := (hide_some e4).2
     have hil : i < len3 := by have := HLN.out; omega
     have ER := Lib.hid er
     have HX9 := Lib.hid hx9
     clear hpb hgr htn hbx hbe hrz hch hm6 er hx9 hl5
     go_wp2_with fail
     go_region
     all_goals go_wp2_with fail
     all_goals go_roundg (i + 1)
     case measure => omega
     case rel =>
      refine ⟨i, rfl, by omega, rfl, TailR.drew (Lib.hid ⟨Dat.pair (.mk k' n' d' s' l') z, 6, 0, 0, ⟨#[]⟩, some ⟨wr.heap.size, 0, none⟩, 2, 2, ?_, ?_, ?_, ?_, (HBE.out.set _ _ _ _ _).alloc _, ?_, ?_⟩)⟩
      ·exact BoxL.alloc ((set5_heap _ _ _ _ _ _ _ (Ne.symm hnb)).trans HPB.out) _
      ·exact HGR.out.shown ((Shown.five wr (S := LoE W3.heap.size E) (.inr rfl) _ _ _ _ _).trans (Shown.below (Below.one _ _))) (by simp)
      ·exact turned_low HTN.out (((set5_below _ _ _ _ _ _ _ _ (Nat.le_of_lt hEl))).trans ((Below.refl _ _).alloc (by rw [set5_size]; omega) _))
      ·exact (show Box5 (set5 wr E _ _ _ _ _) w.heap.size 33 (.int .i64 0) (.int .i64 0) (.int .i64 0) (.string ⟨#[]⟩) (.slice none 0 0) from (set5_heap _ _ _ _ _ _ _ (by omega)).trans HBX.out).alloc _
      ·exact pair_madeH (W := wr) (S := LoE W3.heap.size E) (B := E) (.inr rfl) (fun q hq => by rcases hq with hq | hq <;> omega) ER.out HRZ.out _
      ·rw [← HCH.out, List.take_add_one, HX9.out]; simp
    ·obtain rfl : j = 0 := by omega
     obtain ⟨v0, v1, v2, v3, v4⟩ := hbx.cells
     obtain ⟨y0, y1, y2, y3, y4⟩ := hbx.free
     have gl3 := hbx.lt
     clear hpb hgr htn hbx hbe hrz hch
     go_wp2_with fail
     have bN := HBX.out.set (.int .i64 ek) (.int .i64 en) (.int .i64 ed) (.string es) (.slice eo el ec)
     obtain ⟨r0, r1, r2, r3, r4⟩ := bN.cells
     refine bodyPost_ret (v := .agg #[.int .i64 ek, .int .i64 en, .int .i64 ed, .string es, .slice eo el ec]) (by simp [results, Tryz.results42, go_sem, r0, r1, r2, r3, r4]) rfl ?_
     rw [HD.out]
     have hfm := HF.out.map Rd.chain
     rw [show Rd.chain (l0, y) = z from HCH.out.symm] at hfm
     refine ⟨z, ek, en, ed, es, eo, el, ec, a9, m9, rfl, HRZ.out.shown ((Shown.five wr (S := LoE W3.heap.size E) (.inl hW3) _ _ _ _ _).trans (Shown.less _ fun q _ hq => .inl (by unfold Lo at hq; omega))) (by rw [set5_size]; exact Nat.le_refl _), ?_, turned_low HTN.out (set5_below _ _ _ _ _ _ _ _ (Nat.le_refl _)), hfm⟩
     exact (set5_heap _ _ _ _ _ _ _ (Ne.symm hne)).trans HPB.out
  rw [decide_eq_false h40] at q40
  rw [if_neg h40] at HD0
  have HD := Lib.hid HD0
  clear HD0 h34 h39 h35 h40
  go_enter Tryz.func42, Tryz.ntmps42
  go_upto_region 1 with fail
  rw [HW0.out]
  go_upto_region 2 with (first | (go_at_call 41; refine HC.out.mono ?_; rintro e' w1 ⟨rfl, hr1, ht1⟩; have c0 := hr1.cell 0 rfl; have c1 := hr1.cell 1 rfl; have hl := hr1.lt; have HP9 := Lib.hid hr1; have HT := Lib.hid ht1; clear hr1 ht1))
  go_quiet (fail)
  have hp1 : RB (w1.drewN nq) b s k (-1) := RB.drewN HP9.out _
  have ht1 : Turned (fun c => c = b) w (w1.drewN nq) := HT0.out.next (HT.out.next (Turned.of_below (Below.selfN _ _)))
  have hb1 : Box5 (w1.drewN nq) w.heap.size 33 (.int .i64 0) (.int .i64 0) (.int .i64 0) (.string ⟨#[]⟩) (.slice none 0 0) := (HT.out.block _ HB0.out.lt hne).trans HB0.out
  generalize w1.drewN nq = W1 at hp1 ht1 hb1 ⊢
  have HP1 := Lib.hid hp1
  have HT1 := Lib.hid ht1
  have HB1 := Lib.hid hb1
  have hl1 := hb1.lt
  clear hp1 ht1 hb1 c0 c1 hl
  have f1 := HP1.out.cell 1 rfl
  have fl := HP1.out.lt
  go_wp2_with (first | (go_at_call 78; refine (HM.out _).mono ?_; rintro e' w5 ⟨rfl, rfl⟩) | (go_at_call 43; refine (rfail_un b s k (c :: t) _ HP1.out _ HK.out).mono ?_; rintro e' w2 ⟨x, k9, n9, d9, s9, o9, len9, cap9, a9, m9, rfl, hrep, hrb, ht2, hf⟩; have hb2 : Box5 w2 w.heap.size 33 (.int .i64 0) (.int .i64 0) (.int .i64 0) (.string ⟨#[]⟩) (.slice none 0 0) := (ht2.block _ HB1.out.lt hne).trans HB1.out; obtain ⟨p0, p1, p2, p3, p4⟩ := hb2.cells; obtain ⟨z0, z1, z2, z3, z4⟩ := hb2.free; have pl := hb2.lt; have HB2 := Lib.hid hb2; have HREP := Lib.hid hrep; have HRB2 := Lib.hid hrb; have HT2 := Lib.hid ht2; have HF2 := Lib.hid hf; clear hb2 hrep hrb ht2 hf))
  have HR5 := Lib.hid (HB2.out.set (.int .i64 k9) (.int .i64 n9) (.int .i64 d9) (.string s9) (.slice o9 len9 cap9))
  obtain ⟨r0, r1, r2, r3, r4⟩ := HR5.out.cells
  refine bodyPost_ret (v := .agg #[.int .i64 k9, .int .i64 n9, .int .i64 d9, .string s9, .slice o9 len9 cap9]) (by simp [results, Tryz.results42, go_sem, r0, r1, r2, r3, r4]) rfl ?_
  rw [HD.out]
  exact runi_fin HT1.out hl1 hne HREP.out HRB2.out HT2.out HF2.out
end
end Go.Proofs.YtpcneeekmhdhgaaGreatDoor

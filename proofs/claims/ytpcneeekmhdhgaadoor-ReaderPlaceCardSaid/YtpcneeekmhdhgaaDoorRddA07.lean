/-
  What the proofs lean on: RdP4, RdP5.
-/
import Derived.Test.YtpcneeekmhdhgaaDoorRddA06
set_option maxRecDepth 100000
set_option maxHeartbeats 16000000
namespace Go.Proofs.YtpcneeekmhdhgaaDoor
section
open Go Go.RowKit
namespace Rd
open Dat
end Rd
theorem rep_turn {W W' : World} {b K : Nat} {x : Dat} {v : Value} (h : RepD (hide W (Lo K)) W.heap.size x v) (ht : Turned (fun c => c = b) W W') (hb : b < K) : RepD (hide W' (Lo K)) W'.heap.size x v :=
 h.shown (Shown.turned ht fun q _ hq => by subst hq; exact hb) ht.size
def TailI (b : Nat) (s : ByteArray) (q0 : List UInt8) (w : World) (l0 : List Dat) (y : Dat) (lv : Value) (j : Nat) (wt : World) : Prop := Hid (∃ (z : Dat) (k n d : Int) (st : ByteArray) (o : Option Addr) (len cap : Nat), PB wt b s (s.size - q0.length) ∧ GrownH wt (w.heap.size + 2) (w.heap.size + 2) l0 lv ∧ Turned (fun c => c = b) w wt ∧ Box5 wt w.heap.size 30 (.int .i64 0) (.int .i64 0) (.int .i64 0) (.string ⟨#[]⟩) (.slice none 0 0) ∧
 Box5 wt (w.heap.size + 1) 30 (.int .i64 k) (.int .i64 n) (.int .i64 d) (.string st) (.slice o len cap) ∧ RepD (hide wt (Lo (w.heap.size + 2))) wt.heap.size z (.agg #[.int .i64 k, .int .i64 n, .int .i64 d, .string st, .slice o len cap]) ∧ (l0.take j).foldr Dat.pair z = Rd.chain (l0, y))
theorem TailI.drew {b : Nat} {s : ByteArray} {q0 : List UInt8} {w : World} {l0 : List Dat} {y : Dat} {lv : Value} {j : Nat} {wt : World} (h : TailI b s q0 w l0 y lv j wt) : TailI b s q0 w l0 y lv j wt.drew := by
 obtain ⟨z, k, n, d, st, o, len, cap, h1, h2, h3, h4, h5, h6, h7⟩ := h.out
 exact Lib.hid ⟨z, k, n, d, st, o, len, cap, h1, h2.below (Below.selfN wt 1), h3.next (Turned.of_below (Below.selfN wt 1)), h4, h5, h6.shown (Shown.below (Below.selfN wt 1)) (Nat.le_refl _), h7⟩
theorem plist_any (n : Nat) (H : PDatOk n) (b : Nat) (s : ByteArray) (a : Nat) (t : List UInt8) (w : World) (hn : t.length < n) (hp : PB w b s a) (hat0 : Rd.At s a (40 :: t)) (hs : s.size ≤ 65536) :
  Calls Tryd.prog 21 #[.pointer (some ⟨b, 0, none⟩)] w (PDat b s ((Rd.S true false t).map Rd.chain) w) := by
 have hat := hat0.cons
 have hal : a < s.size := by have := hat0.1; simp only [List.length_cons] at this; omega
 have htl : t.length ≤ 65536 := by have := hat.1; omega
 have HP0 := Lib.hid hp
 have hb := hp.lt
 have HADD := Lib.hid (show ((a : Int) + 1) = ((a + 1 : Nat) : Int) from by omega)
 have HAT := Lib.hid hat
 clear hp hat0 hat
 obtain ⟨W0, hW0⟩ : ∃ W0, w.alloc (.cells #[.int .i64 0, .int .i64 0, .int .i64 0, .string ⟨#[]⟩, .slice none 0 0] 30) = W0 := ⟨_, rfl⟩
 have HW0 := Lib.hid hW0
 have HB5 := Lib.hid (show Box5 W0 w.heap.size 30 (.int .i64 0) (.int .i64 0) (.int .i64 0) (.string ⟨#[]⟩) (.slice none 0 0) from by rw [← hW0]; exact Box5.new w _ _ _ _ _ _)
 have HP1 := Lib.hid (show PB W0 b s a from by rw [← hW0]; exact BoxL.alloc HP0.out _)
 have HT0 := Lib.hid (show Turned (fun c => c = b) w W0 from by rw [← hW0]; exact Turned.of_below (Below.one _ _))
 have HZ0 := Lib.hid (show W0.heap.size = w.heap.size + 1 from by rw [← hW0]; simp)
 have c1 := HP1.out.cell 1 rfl
 have y1 := HP1.out.free 1
 have hl1 := HP1.out.lt
 have hne : w.heap.size ≠ b := by omega
 clear hW0
 go_enter Tryd.func21, Tryd.ntmps21
 go_upto_region 1 with fail
 rw [HW0.out]
 go_upto_region 2 with fail
 rw [HADD.out]
 have hP2 : PB (W0.setCell ⟨b, 1, none⟩ (.int .i64 ((a + 1 : Nat) : Int))) b s (a + 1) := PB.set HP1.out _
 have hT2 : Turned (fun c => c = b) W0 (W0.setCell ⟨b, 1, none⟩ (.int .i64 ((a + 1 : Nat) : Int))) := Turned.set _ _ _ rfl
 have hZ2 : (W0.setCell ⟨b, 1, none⟩ (.int .i64 ((a + 1 : Nat) : Int))).heap.size = w.heap.size + 1 := by rw [World.size_setCell]; exact HZ0.out
 generalize W0.setCell ⟨b, 1, none⟩ (.int .i64 ((a + 1 : Nat) : Int)) = W1 at hP2 hT2 hZ2 ⊢
 have HP2 := Lib.hid hP2
 have HT1 := Lib.hid (HT0.out.next hT2)
 have HZ1 := Lib.hid hZ2
 have HB6 := Lib.hid (show Box5 W1 w.heap.size 30 (.int .i64 0) (.int .i64 0) (.int .i64 0) (.string ⟨#[]⟩) (.slice none 0 0) from (hT2.block _ HB5.out.lt hne).trans HB5.out)
 clear hP2 hT2 c1 y1 hl1 hZ2
 go_upto_region 4 with fail
 go_wp2_with fail
 rw [HZ1.out]
 obtain ⟨W2, hW2⟩ : ∃ W2, W1.alloc (.cells #[.int .i64 4, .int .i64 0, .int .i64 0, .string ⟨#[]⟩, .slice none 0 0] 30) = W2 := ⟨_, rfl⟩
 have HI := Lib.hid (show ∃ (a' : Nat) (r' : List UInt8) (l0 : List Dat), PB W2 b s a' ∧ Rd.At s a' r' ∧ GrownH W2 (w.heap.size + 2) (w.heap.size + 2) l0 (.slice none 0 0) ∧ Rd.S true false t = Rd.pre l0 (Rd.S true (!l0.isEmpty) r') ∧ r'.length ≤ t.length ∧ l0.length + r'.length ≤ t.length ∧ Turned (fun c => c = b) w W2 ∧ Box5 W2 w.heap.size 30 (.int .i64 0) (.int .i64 0) (.int .i64 0) (.string ⟨#[]⟩) (.slice none 0 0) ∧ Box5 W2 (w.heap.size + 1) 30 (.int .i64 4) (.int .i64 0) (.int .i64 0) (.string ⟨#[]⟩) (.slice none 0 0) from
  ⟨a + 1, t, [], by rw [← hW2]; exact BoxL.alloc HP2.out _, HAT.out, GrownH.nil _ (Nat.le_refl _), by rw [Rd.pre_nil]; rfl, Nat.le_refl _, by simp, by rw [← hW2]; exact turned_low HT1.out ((Below.one _ _).mono (by rw [HZ1.out]; omega)), by rw [← hW2]; exact HB6.out.alloc _, by rw [← hW2, ← HZ1.out]; exact Box5.new W1 _ _ _ _ _ _⟩)
 rw [hW2]
 clear hW2
 go_loopg [3] t.length (fun g lv wr => Hid (∃ (a' : Nat) (r' : List UInt8) (l0 : List Dat), PB wr b s a' ∧ Rd.At s a' r' ∧ GrownH wr (w.heap.size + 2) (w.heap.size + 2) l0 lv ∧ Rd.S true false t = Rd.pre l0 (Rd.S true (!l0.isEmpty) r') ∧ r'.length ≤ g ∧ l0.length + r'.length ≤ t.length ∧ Turned (fun c => c = b) w wr ∧ Box5 wr w.heap.size 30 (.int .i64 0) (.int .i64 0) (.int .i64 0) (.string ⟨#[]⟩) (.slice none 0 0) ∧ Box5 wr (w.heap.size + 1) 30 (.int .i64 4) (.int .i64 0) (.int .i64 0) (.string ⟨#[]⟩) (.slice none 0 0)))
 case atStart => exact HI
 case round =>
  obtain ⟨a1, r1, l0, hp1, hat1, hg1, hS, hle, hlen, hT, hbx, hbe⟩ := hrel.out
  clear hrel HI
  have hC := pclosed_any b s a1 r1 wr hp1 hat1 hs
  have hq := hat1.suf (Rd.skip_suf r1 false)
  have hql := Rd.skip_le r1 false
  obtain ⟨o3, len3, cap3, hv3, hl3⟩ := hg1.form
  subst hv3
  have HLN := Lib.hid hl3
  have HTW := Lib.hid hT
  have HG := Lib.hid hg1
  have HBX := Lib.hid hbx
  have HBE := Lib.hid hbe
  have hk1 := hbe.lt
  have hnb1 : w.heap.size + 1 ≠ b := by omega
  have low : ∀ (N q : Nat), q < N → q = b → Lo (w.heap.size + 2) q := fun N q _ hq => by unfold Lo; omega
  have LOW := Lib.hid low
  have hbk : b < w.heap.size + 2 := by omega
  have hlb : len3 ≤ 65536 := by omega
  clear hl3 low
  cases hsk : Rd.skip false r1 with
  | nil =>
   have HC := Lib.hid (hC.mono fun e w' h => show e = .panicked (stopAt s.size) ∧ Turned (fun c => c = b) wr w' from by unfold PClosed at h; rw [hsk] at h; exact h)
   have HF := Lib.hid (show (Rd.S true false t).map Rd.chain = .bad [] from by rw [hS, Rd.S_nil hsk]; rfl)
   clear hC hq hql hp1 hat1 hg1 hS hT hbx hbe hsk
   go_wp2_with (first | (go_at_call 36; refine HC.out.mono ?_; rintro e' w1 ⟨rfl, ht1⟩))
   exact ⟨rfl, by rw [HF.out]; exact ⟨rfl, HTW.out.next ht1⟩⟩
  | cons c1 t1 =>
   rw [hsk] at hq hql
   by_cases h41 : c1 = 41
   ·subst h41
    have HC := Lib.hid (hC.mono fun e w' h => show e = .returned (.bool true) ∧ PGo b s t1 wr w' from by unfold PClosed at h; rw [hsk] at h; exact h)
    have HFt := Lib.hid (show (Rd.S true false t).map Rd.chain = .ok (Rd.chain (l0, Dat.null)) t1 from by rw [hS, Rd.S_close hsk]; simp [Rd.pre, Rd.Res.map])
    clear hC hq hql hp1 hat1 hg1 hS hT hbx hbe hsk
    go_upto_region 11 with (first | (go_at_call 36; refine HC.out.mono ?_; rintro e' w1 ⟨rfl, hgo⟩; have HGt := Lib.hid (HG.out.turned hgo.2 (LOW.out _)); have HTt := Lib.hid (HTW.out.next hgo.2); have HPt := Lib.hid (show PB w1 b s (s.size - t1.length) from hgo.1); have HXt := Lib.hid (show Box5 w1 w.heap.size 30 (.int .i64 0) (.int .i64 0) (.int .i64 0) (.string ⟨#[]⟩) (.slice none 0 0) from (hgo.2.block _ HBX.out.lt hne).trans HBX.out); have HEt := Lib.hid (show Box5 w1 (w.heap.size + 1) 30 (.int .i64 4) (.int .i64 0) (.int .i64 0) (.string ⟨#[]⟩) (.slice none 0 0) from (hgo.2.block _ hk1 hnb1).trans HBE.out); have HYt := Lib.hid (show RepD (hide w1 (Lo (w.heap.size + 2))) w1.heap.size Dat.null (.agg #[.int .i64 4, .int .i64 0, .int .i64 0, .string ⟨#[]⟩, .slice none 0 0]) from RepD.shut (by omega) (by omega) (by omega) (by decide) ⟨none, 0, 0, rfl, rfl, by omega, by omega, rfl, rfl⟩); clear hgo))
    go_wp2_with fail
    go_loopg [5] (len3 + 1) (fun g i wt => ∃ (j : Nat), g = j + 1 ∧ j ≤ l0.length ∧ i = .int .i64 ((j : Int) - 1) ∧ TailI b s t1 w l0 Dat.null (.slice o3 len3 cap3) j wt)
    case atStart => exact ⟨len3, rfl, Nat.le_of_eq HLN.out, rfl, Lib.hid ⟨Dat.null, _, _, _, _, _, _, _, HPt.out, HGt.out, HTt.out, HXt.out, HEt.out, HYt.out, by rw [List.take_of_length_le (Nat.le_of_eq HLN.out.symm)]; rfl⟩⟩
    case round =>
     obtain ⟨j, rfl, hj, rfl, hti⟩ := hrel
     obtain ⟨z, ek, en, ed, es, eo, el, ec, hpb, hgr, htn, hbx, hbe, hrz, hch⟩ := hti.out
     clear hti
     obtain ⟨q0', q1, q2, q3, q4⟩ := hbe.cells
     obtain ⟨zz0, zz1, zz2, zz3, zz4⟩ := hbe.free
     have gl2 := hbe.lt
     have HPB := Lib.hid hpb
     have HGR := Lib.hid hgr
     have HTN := Lib.hid htn
     have HBX := Lib.hid hbx
     have HBE := Lib.hid hbe
     have HRZ := Lib.hid hrz
     have HCH := Lib.hid hch
     have hnb : (w.heap.size + 1) ≠ b := by omega
     by_cases hjl : 0 < j
     ·obtain ⟨i, rfl⟩ : ∃ i, j = i + 1 := ⟨j - 1, by omega⟩
      obtain ⟨x9, hx9⟩ : ∃ x, l0[i]? = some x := ⟨_, List.getElem?_eq_getElem (by omega)⟩
      have hrs := hgr.rep
      obtain ⟨o5, len5, cap5, he5, hl5, hc5, hm5, hm6⟩ := hrs
      simp only [Value.slice.injEq] at he5
      obtain ⟨rfl, rfl, rfl⟩ := he5
      obtain ⟨bb, off, k', n', d', s', l', o', len', cap', ho, hxe, e0, e1, e2, e3, e4, er⟩ := part_at2 hm6 (Below.refl _ (hide wr (Lo (w.heap.size + 2)))) hx9
      subst ho hxe
      replace e0 := (hide_some e0).2
      replace e1 := (hide_some e1).2
      replace e2 := (hide_some e2).2
      replace e3 := (hide_some e3).2
      replace e4 := (hide_some e4).2
      have hil : i < len3 := by have := HLN.out; omega
      have ER := Lib.hid er
      have HX9 := Lib.hid hx9
      clear hpb hgr htn hbx hbe hrz hch hm6 er hx9 hl5
      go_wp2_with fail
      go_region
      all_goals go_wp2_with fail
      all_goals go_roundg (i + 1)
      case measure => omega
      case rel =>
       refine ⟨i, rfl, by omega, rfl, TailI.drew (Lib.hid ⟨Dat.pair (.mk k' n' d' s' l') z, 6, 0, 0, ⟨#[]⟩, some ⟨wr.heap.size, 0, none⟩, 2, 2, ?_, ?_, ?_, ?_, (HBE.out.set _ _ _ _ _).alloc _, ?_, ?_⟩)⟩
       ·exact BoxL.alloc ((set5_heap _ _ _ _ _ _ _ (Ne.symm hnb)).trans HPB.out) _
       ·exact (HGR.out.five (Nat.lt_succ_self _) _ _ _ _ _).below (Below.one _ _)
       ·exact turned_low HTN.out (((set5_below _ _ _ _ _ _ _ _ (Nat.le_succ _))).trans ((Below.refl _ _).alloc (by rw [set5_size]; omega) _))
       ·exact (show Box5 (set5 wr (w.heap.size + 1) _ _ _ _ _) w.heap.size 30 (.int .i64 0) (.int .i64 0) (.int .i64 0) (.string ⟨#[]⟩) (.slice none 0 0) from (set5_heap _ _ _ _ _ _ _ (by omega)).trans HBX.out).alloc _
       ·exact pair_madeH (W := wr) (S := Lo (w.heap.size + 2)) (B := w.heap.size + 1) (show Lo (w.heap.size + 2) (w.heap.size + 1) from Nat.lt_succ_self _) (fun q hq => by unfold Lo at hq; omega) ER.out HRZ.out _
       ·rw [← HCH.out, List.take_add_one, HX9.out]; simp
     ·obtain rfl : j = 0 := by omega
      obtain ⟨v0, v1, v2, v3, v4⟩ := hbx.cells
      obtain ⟨y0, y1, y2, y3, y4⟩ := hbx.free
      have gl3 := hbx.lt
      clear hpb hgr htn hbx hbe hrz hch
      go_wp2_with fail
      have bN := HBX.out.set (.int .i64 ek) (.int .i64 en) (.int .i64 ed) (.string es) (.slice eo el ec)
      obtain ⟨r0, r1, r2, r3, r4⟩ := bN.cells
      refine bodyPost_ret (v := .agg #[.int .i64 ek, .int .i64 en, .int .i64 ed, .string es, .slice eo el ec]) (by simp [results, Tryd.results21, go_sem, r0, r1, r2, r3, r4]) rfl ?_
      rw [HFt.out, show Rd.chain (l0, Dat.null) = z from HCH.out.symm]
      refine ⟨_, rfl, RepD.shown (W := wr) (S := Lo (w.heap.size + 2)) HRZ.out ((Shown.five wr (S := Lo (w.heap.size + 2)) (show Lo (w.heap.size + 2) w.heap.size from by unfold Lo; omega) _ _ _ _ _).trans (Shown.less _ fun q _ hq => by unfold Lo at hq ⊢; omega)) (by rw [set5_size]; exact Nat.le_refl _), ⟨?_, ?_⟩⟩
      ·exact (set5_heap _ _ _ _ _ _ _ (by omega)).trans HPB.out
      ·exact turned_low HTN.out (set5_below _ _ _ _ _ _ _ _ (Nat.le_refl _))
   ·have HC := Lib.hid (hC.mono fun e w' h => show e = .returned (.bool false) ∧ PGo b s (c1 :: t1) wr w' from by unfold PClosed at h; rw [hsk] at h; simp only at h; rw [if_neg h41] at h; exact h)
    obtain ⟨hlt, hget⟩ := hq.get
    obtain ⟨k, hk⟩ : ∃ k, s.size - (c1 :: t1).length = k := ⟨_, rfl⟩
    have hget2 : ∃ h : k < s.size, s[k] = c1 := by subst hk; exact ⟨hlt, hget⟩
    obtain ⟨hlt2, hgt⟩ := hget2
    have HK := Lib.hid hk
    have HQ := Lib.hid hq
    have q46 : ((c1.toNat : Int) != 46) = !decide (c1 = 46) := u8_ne c1 46
    clear hget hlt
    by_cases hpt : c1 = 46 ∧ l0.isEmpty = false
    ·obtain ⟨h46, hl0⟩ := hpt
     have hlen0 : ((len3 : Int) == 0) = false := by
      have := HLN.out
      cases l0 with
      | nil => cases hl0
      | cons x l => simp only [List.length_cons] at this; simp; omega
     rw [decide_eq_true h46] at q46
     have hS2 : Rd.S true false t = Rd.pre l0 (Rd.pointF Rd.D t1) := by
      rw [hS, hl0]
      subst h46
      rw [show (!false) = true from rfl, Rd.S_point hsk]
     have hq1 : Rd.At s (k + 1) t1 := by rw [← hk]; exact hq.cons
     have hDk : ∀ W, PB W b s (k + 1) → Calls Tryd.prog 9 #[.pointer (some ⟨b, 0, none⟩)] W (PDat b s (Rd.D t1) W) := fun W hW => H b s _ _ W (by simp only [List.length_cons] at hql; omega) hW hq1 hs
     have hgood := Rd.D_good t1
     have HADD3 := Lib.hid (show ((k : Int) + 1) = ((k + 1 : Nat) : Int) from by omega)
     cases hD : Rd.D t1 with
     | bad q =>
      rw [hD] at hDk
      have HD := Lib.hid hDk
      have HF := Lib.hid (show (Rd.S true false t).map Rd.chain = .bad q from by rw [hS2]; unfold Rd.pointF; rw [hD]; rfl)
      clear hC hq hql hp1 hat1 hg1 hS hT hbx hbe hsk hk hDk hD hgood hq1 hS2 h46 hl0
      go_upto_region 5 with (first | (go_at_call 36; refine HC.out.mono ?_; rintro e' w1 ⟨rfl, hgo⟩; have hp9 := hgo.1; rw [HK.out] at hp9; have g0 := hp9.cell 0 rfl; have g1 := hp9.cell 1 rfl; have g2 := hp9.free 1; have g3 := hp9.lt; have HGO := Lib.hid hgo; have HP9 := Lib.hid hp9; clear hgo hp9))
      go_quiet (fail)
      go_upto_region 8 with fail
      rw [HADD3.out]
      have hp3 : PB ((w1.drewN nq).setCell ⟨b, 1, none⟩ (.int .i64 ((k + 1 : Nat) : Int))) b s (k + 1) := PB.set (BoxL.keep HP9.out (Below.selfN _ _)) _
      have ht3 : Turned (fun c => c = b) wr ((w1.drewN nq).setCell ⟨b, 1, none⟩ (.int .i64 ((k + 1 : Nat) : Int))) := HGO.out.2.next ((Turned.of_below (Below.selfN _ _)).next (Turned.set _ _ _ rfl))
      generalize (w1.drewN nq).setCell ⟨b, 1, none⟩ (.int .i64 ((k + 1 : Nat) : Int)) = W3 at hp3 ht3 ⊢
      have HP3 := Lib.hid hp3
      have HT3 := Lib.hid ht3
      clear hp3 ht3 g0 g1 g2 g3
      go_wp2_with (first | (go_at_call 9; refine (HD.out _ HP3.out).mono ?_; rintro e' w2 ⟨rfl, ht2⟩))
      exact ⟨rfl, by rw [HF.out]; exact ⟨rfl, (HTW.out.next HT3.out).next ht2⟩⟩
     | ok x q =>
      rw [hD] at hDk hgood
      have HD := Lib.hid hDk
      have HSP := Lib.hid (show (Rd.S true false t).map Rd.chain = (Rd.pre l0 (Rd.shutF x q)).map Rd.chain from by rw [hS2]; unfold Rd.pointF; rw [hD])
      have hqa := hq1.suf hgood.1
      clear hC hq hql hp1 hat1 hg1 hS hT hbx hbe hsk hk hDk hD hgood hq1 hS2 h46 hl0
      go_upto_region 5 with (first | (go_at_call 36; refine HC.out.mono ?_; rintro e' w1 ⟨rfl, hgo⟩; have hp9 := hgo.1; rw [HK.out] at hp9; have g0 := hp9.cell 0 rfl; have g1 := hp9.cell 1 rfl; have g2 := hp9.free 1; have g3 := hp9.lt; have HGO := Lib.hid hgo; have HP9 := Lib.hid hp9; clear hgo hp9))
      go_quiet (fail)
      go_upto_region 8 with fail
      rw [HADD3.out]
      have hp3 : PB ((w1.drewN nq).setCell ⟨b, 1, none⟩ (.int .i64 ((k + 1 : Nat) : Int))) b s (k + 1) := PB.set (BoxL.keep HP9.out (Below.selfN _ _)) _
      have ht3 : Turned (fun c => c = b) wr ((w1.drewN nq).setCell ⟨b, 1, none⟩ (.int .i64 ((k + 1 : Nat) : Int))) := HGO.out.2.next ((Turned.of_below (Below.selfN _ _)).next (Turned.set _ _ _ rfl))
      generalize (w1.drewN nq).setCell ⟨b, 1, none⟩ (.int .i64 ((k + 1 : Nat) : Int)) = W3 at hp3 ht3 ⊢
      have HP3 := Lib.hid hp3
      have HT3 := Lib.hid ht3
      clear hp3 ht3 g0 g1 g2 g3
      have HEB := Lib.hid (show Box5 W3 (w.heap.size + 1) 30 (.int .i64 4) (.int .i64 0) (.int .i64 0) (.string ⟨#[]⟩) (.slice none 0 0) from (HT3.out.block _ hk1 hnb1).trans HBE.out)
      go_upto_region 9 with (first | (go_at_call 9; refine (HD.out _ HP3.out).mono ?_; rintro e' w2 ⟨v, rfl, hrep, hgo2⟩; obtain ⟨k9, n9, d9, s9, o9, len9, cap9, rfl⟩ := agg_of hrep.unhide; have hb2 : Box5 w2 (w.heap.size + 1) 30 (.int .i64 4) (.int .i64 0) (.int .i64 0) (.string ⟨#[]⟩) (.slice none 0 0) := (hgo2.2.block _ HEB.out.lt hnb1).trans HEB.out; obtain ⟨p0, p1, p2, p3, p4⟩ := hb2.cells; obtain ⟨z0, z1, z2, z3, z4⟩ := hb2.free; have pl := hb2.lt; have HB2 := Lib.hid hb2; have HREP := Lib.hid hrep; have HGO2 := Lib.hid hgo2; clear hb2 hrep hgo2))
      have hpb4 : PB (set5 w2 (w.heap.size + 1) (.int .i64 k9) (.int .i64 n9) (.int .i64 d9) (.string s9) (.slice o9 len9 cap9)) b s (s.size - q.length) := (set5_heap _ _ _ _ _ _ _ (Ne.symm hnb1)).trans HGO2.out.1
      have hg4 := ((HG.out.turned HT3.out (LOW.out _)).turned HGO2.out.2 (LOW.out _)).five (B := w.heap.size + 1) (Nat.lt_succ_self _) (.int .i64 k9) (.int .i64 n9) (.int .i64 d9) (.string s9) (.slice o9 len9 cap9)
      have ht4 : Turned (fun c => c = b) w (set5 w2 (w.heap.size + 1) (.int .i64 k9) (.int .i64 n9) (.int .i64 d9) (.string s9) (.slice o9 len9 cap9)) := turned_low ((HTW.out.next HT3.out).next HGO2.out.2) (set5_below _ _ _ _ _ _ _ _ (Nat.le_succ _))
      have hx4 : Box5 (set5 w2 (w.heap.size + 1) (.int .i64 k9) (.int .i64 n9) (.int .i64 d9) (.string s9) (.slice o9 len9 cap9)) w.heap.size 30 (.int .i64 0) (.int .i64 0) (.int .i64 0) (.string ⟨#[]⟩) (.slice none 0 0) := (set5_heap _ _ _ _ _ _ _ (by omega)).trans ((HGO2.out.2.block _ (Nat.lt_of_lt_of_le HBX.out.lt HT3.out.size) hne).trans ((HT3.out.block _ HBX.out.lt hne).trans HBX.out))
      have he4 : Box5 (set5 w2 (w.heap.size + 1) (.int .i64 k9) (.int .i64 n9) (.int .i64 d9) (.string s9) (.slice o9 len9 cap9)) (w.heap.size + 1) 30 (.int .i64 k9) (.int .i64 n9) (.int .i64 d9) (.string s9) (.slice o9 len9 cap9) := HB2.out.set (.int .i64 k9) (.int .i64 n9) (.int .i64 d9) (.string s9) (.slice o9 len9 cap9)
      have hy4 : RepD (hide (set5 w2 (w.heap.size + 1) (.int .i64 k9) (.int .i64 n9) (.int .i64 d9) (.string s9) (.slice o9 len9 cap9)) (Lo (w.heap.size + 2))) (set5 w2 (w.heap.size + 1) (.int .i64 k9) (.int .i64 n9) (.int .i64 d9) (.string s9) (.slice o9 len9 cap9)).heap.size x (.agg #[.int .i64 k9, .int .i64 n9, .int .i64 d9, .string s9, .slice o9 len9 cap9]) := HREP.out.shown ((Shown.less w2 (S := Lo W3.heap.size) (S' := Lo (w.heap.size + 2)) fun q _ hq => by unfold Lo at hq ⊢; have := HEB.out.lt; omega).trans (Shown.five w2 (S := Lo (w.heap.size + 2)) (show Lo (w.heap.size + 2) (w.heap.size + 1) from Nat.lt_succ_self _) _ _ _ _ _)) (by rw [set5_size]; exact Nat.le_refl _)
      have hC4 := fun (W : World) (hW : PB W b s (s.size - q.length)) => pclosed_any b s _ q W hW hqa hs
      show Code.wp _ _ _ _ (set5 w2 (w.heap.size + 1) (.int .i64 k9) (.int .i64 n9) (.int .i64 d9) (.string s9) (.slice o9 len9 cap9))
      generalize set5 w2 (w.heap.size + 1) (.int .i64 k9) (.int .i64 n9) (.int .i64 d9) (.string s9) (.slice o9 len9 cap9) = W4 at hpb4 hg4 ht4 hx4 he4 hy4 ⊢
      have hC5 := hC4 W4 hpb4
      have hqq := hqa.suf (Rd.skip_suf q false)
      have HG4 := Lib.hid hg4
      have HT4 := Lib.hid ht4
      have HX4 := Lib.hid hx4
      have HE4 := Lib.hid he4
      have HY4 := Lib.hid hy4
      clear hpb4 hg4 ht4 hx4 he4 hy4 hC4 p0 p1 p2 p3 p4 z0 z1 z2 z3 z4 pl
      cases hsq : Rd.skip false q with
      | nil =>
       have HC := Lib.hid (hC5.mono fun e w' h => show e = .panicked (stopAt s.size) ∧ Turned (fun c => c = b) W4 w' from by unfold PClosed at h; rw [hsq] at h; exact h)
       have HF := Lib.hid (show (Rd.S true false t).map Rd.chain = .bad [] from by rw [HSP.out]; unfold Rd.shutF; rw [hsq]; rfl)
       clear hC5 hqq hqa hsq
       go_wp2_with (first | (go_at_call 36; refine HC.out.mono ?_; rintro e' w5 ⟨rfl, ht1⟩))
       exact ⟨rfl, by rw [HF.out]; exact ⟨rfl, HT4.out.next ht1⟩⟩
      | cons c2 t2 =>
       rw [hsq] at hqq
       by_cases h42 : c2 = 41
       ·subst h42
        have HC := Lib.hid (hC5.mono fun e w' h => show e = .returned (.bool true) ∧ PGo b s t2 W4 w' from by unfold PClosed at h; rw [hsq] at h; exact h)
        have HFt := Lib.hid (show (Rd.S true false t).map Rd.chain = .ok (Rd.chain (l0, x)) t2 from by rw [HSP.out]; unfold Rd.shutF; rw [hsq]; simp [Rd.pre, Rd.Res.map])
        clear hC5 hqq hqa hsq
        go_upto_region 11 with (first | (go_at_call 36; refine HC.out.mono ?_; rintro e' w5 ⟨rfl, hgo⟩; have HGt := Lib.hid (HG4.out.turned hgo.2 (LOW.out _)); have HTt := Lib.hid (HT4.out.next hgo.2); have HPt := Lib.hid (show PB w5 b s (s.size - t2.length) from hgo.1); have HXt := Lib.hid (show Box5 w5 w.heap.size 30 (.int .i64 0) (.int .i64 0) (.int .i64 0) (.string ⟨#[]⟩) (.slice none 0 0) from (hgo.2.block _ HX4.out.lt hne).trans HX4.out); have HEt := Lib.hid (show Box5 w5 (w.heap.size + 1) 30 (.int .i64 k9) (.int .i64 n9) (.int .i64 d9) (.string s9) (.slice o9 len9 cap9) from (hgo.2.block _ HE4.out.lt hnb1).trans HE4.out); have HYt := Lib.hid (rep_turn HY4.out hgo.2 hbk); clear hgo))
        go_wp2_with fail
        go_loopg [5] (len3 + 1) (fun g i wt => ∃ (j : Nat), g = j + 1 ∧ j ≤ l0.length ∧ i = .int .i64 ((j : Int) - 1) ∧ TailI b s t2 w l0 x (.slice o3 len3 cap3) j wt)
        case atStart => exact ⟨len3, rfl, Nat.le_of_eq HLN.out, rfl, Lib.hid ⟨x, _, _, _, _, _, _, _, HPt.out, HGt.out, HTt.out, HXt.out, HEt.out, HYt.out, by rw [List.take_of_length_le (Nat.le_of_eq HLN.out.symm)]; rfl⟩⟩
        case round =>
         obtain ⟨j, rfl, hj, rfl, hti⟩ := hrel
         obtain ⟨z, ek, en, ed, es, eo, el, ec, hpb, hgr, htn, hbx, hbe, hrz, hch⟩ := hti.out
         clear hti
         obtain ⟨q0', q1, q2, q3, q4⟩ := hbe.cells
         obtain ⟨zz0, zz1, zz2, zz3, zz4⟩ := hbe.free
         have gl2 := hbe.lt
         have HPB := Lib.hid hpb
         have HGR := Lib.hid hgr
         have HTN := Lib.hid htn
         have HBX := Lib.hid hbx
         have HBE := Lib.hid hbe
         have HRZ := Lib.hid hrz
         have HCH := Lib.hid hch
         have hnb : (w.heap.size + 1) ≠ b := by omega
         by_cases hjl : 0 < j
         ·obtain ⟨i, rfl⟩ : ∃ i, j = i + 1 := ⟨j - 1, by omega⟩
          obtain ⟨x9, hx9⟩ : ∃ x, l0[i]? = some x := ⟨_, List.getElem?_eq_getElem (by omega)⟩
          have hrs := hgr.rep
          obtain ⟨o5, len5, cap5, he5, hl5, hc5, hm5, hm6⟩ := hrs
          simp only [Value.slice.injEq] at he5
          obtain ⟨rfl, rfl, rfl⟩ := he5
          obtain ⟨bb, off, k', n', d', s', l', o', len', cap', ho, hxe, e0, e1, e2, e3, e4, er⟩ := part_at2 hm6 (Below.refl _ (hide wr (Lo (w.heap.size + 2)))) hx9
          subst ho hxe
          replace e0 := (hide_some e0).2
          replace e1 := (hide_some e1).2
          replace e2 := (hide_some e2).2
          replace e3 := (hide_some e3).2
          replace e4 := (hide_some e4).2
          have hil : i < len3 := by have := HLN.out; omega
          have ER := Lib.hid er
          have HX9 := Lib.hid hx9
          clear hpb hgr htn hbx hbe hrz hch hm6 er hx9 hl5
          go_wp2_with fail
          go_region
          all_goals go_wp2_with fail
          all_goals go_roundg (i + 1)
          case measure => omega
          case rel =>
           refine ⟨i, rfl, by omega, rfl, TailI.drew (Lib.hid ⟨Dat.pair (.mk k' n' d' s' l') z, 6, 0, 0, ⟨#[]⟩, some ⟨wr.heap.size, 0, none⟩, 2, 2, ?_, ?_, ?_, ?_, (HBE.out.set _ _ _ _ _).alloc _, ?_, ?_⟩)⟩
           ·exact BoxL.alloc ((set5_heap _ _ _ _ _ _ _ (Ne.symm hnb)).trans HPB.out) _
           ·exact (HGR.out.five (Nat.lt_succ_self _) _ _ _ _ _).below (Below.one _ _)
           ·exact turned_low HTN.out (((set5_below _ _ _ _ _ _ _ _ (Nat.le_succ _))).trans ((Below.refl _ _).alloc (by rw [set5_size]; omega) _))
           ·exact (show Box5 (set5 wr (w.heap.size + 1) _ _ _ _ _) w.heap.size 30 (.int .i64 0) (.int .i64 0) (.int .i64 0) (.string ⟨#[]⟩) (.slice none 0 0) from (set5_heap _ _ _ _ _ _ _ (by omega)).trans HBX.out).alloc _
           ·exact pair_madeH (W := wr) (S := Lo (w.heap.size + 2)) (B := w.heap.size + 1) (show Lo (w.heap.size + 2) (w.heap.size + 1) from Nat.lt_succ_self _) (fun q hq => by unfold Lo at hq; omega) ER.out HRZ.out _
           ·rw [← HCH.out, List.take_add_one, HX9.out]; simp
         ·obtain rfl : j = 0 := by omega
          obtain ⟨v0, v1, v2, v3, v4⟩ := hbx.cells
          obtain ⟨y0, y1, y2, y3, y4⟩ := hbx.free
          have gl3 := hbx.lt
          clear hpb hgr htn hbx hbe hrz hch
          go_wp2_with fail
          have bN := HBX.out.set (.int .i64 ek) (.int .i64 en) (.int .i64 ed) (.string es) (.slice eo el ec)
          obtain ⟨r0, r1, r2, r3, r4⟩ := bN.cells
          refine bodyPost_ret (v := .agg #[.int .i64 ek, .int .i64 en, .int .i64 ed, .string es, .slice eo el ec]) (by simp [results, Tryd.results21, go_sem, r0, r1, r2, r3, r4]) rfl ?_
          rw [HFt.out, show Rd.chain (l0, x) = z from HCH.out.symm]
          refine ⟨_, rfl, RepD.shown (W := wr) (S := Lo (w.heap.size + 2)) HRZ.out ((Shown.five wr (S := Lo (w.heap.size + 2)) (show Lo (w.heap.size + 2) w.heap.size from by unfold Lo; omega) _ _ _ _ _).trans (Shown.less _ fun q _ hq => by unfold Lo at hq ⊢; omega)) (by rw [set5_size]; exact Nat.le_refl _), ⟨?_, ?_⟩⟩
          ·exact (set5_heap _ _ _ _ _ _ _ (by omega)).trans HPB.out
          ·exact turned_low HTN.out (set5_below _ _ _ _ _ _ _ _ (Nat.le_refl _))
       ·have HC := Lib.hid (hC5.mono fun e w' h => show e = .returned (.bool false) ∧ PGo b s (c2 :: t2) W4 w' from by unfold PClosed at h; rw [hsq] at h; simp only at h; rw [if_neg h42] at h; exact h)
        have HF := Lib.hid (show (Rd.S true false t).map Rd.chain = .bad (c2 :: t2) from by rw [HSP.out]; unfold Rd.shutF; rw [hsq]; simp only; rw [if_neg h42]; rfl)
        obtain ⟨k2, hk2⟩ : ∃ k2, s.size - (c2 :: t2).length = k2 := ⟨_, rfl⟩
        have HK2 := Lib.hid hk2
        clear hC5 hqq hqa hsq hk2
        go_wp2_with (first | (go_at_call 36; refine HC.out.mono ?_; rintro e' w5 ⟨rfl, hgo⟩; have hp9 := hgo.1; rw [HK2.out] at hp9; have g1 := hp9.cell 1 rfl; have g3 := hp9.lt; have HGO5 := Lib.hid hgo; clear hgo hp9))
        exact ⟨rfl, by rw [HF.out]; exact ⟨by rw [HK2.out]; rfl, HT4.out.next HGO5.out.2⟩⟩
    ·have hSi : Rd.S true (!l0.isEmpty) r1 = Rd.oneF Rd.D (Rd.S true true) (c1 :: t1) := Rd.S_item hsk h41 (fun h => hpt ⟨h.1, by have := h.2.2; cases hh : l0.isEmpty with
      | false => rfl
      | true => rw [hh] at this; cases this⟩)
     have hDk : ∀ W, PB W b s k → Calls Tryd.prog 9 #[.pointer (some ⟨b, 0, none⟩)] W (PDat b s (Rd.D (c1 :: t1)) W) := fun W hW => H b s _ _ W (by omega) hW (by rw [← hk]; exact hq) hs
     have hgood := Rd.D_good (c1 :: t1)
     have hvar : (((c1.toNat : Int) != 46) = true) ∨ (((c1.toNat : Int) != 46) = false ∧ ((len3 : Int) == 0) = true) := by
      by_cases h46 : c1 = 46
      ·right
       refine ⟨by rw [q46, decide_eq_true h46]; rfl, ?_⟩
       cases l0 with
       | nil => have := HLN.out; simp only [List.length_nil] at this; simp [this]
       | cons y l => exact (hpt ⟨h46, rfl⟩).elim
      ·left; rw [q46, decide_eq_false h46]; rfl
     clear q46 hpt
     cases hD : Rd.D (c1 :: t1) with
     | bad q =>
      rw [hD] at hDk
      have HD := Lib.hid hDk
      have HF := Lib.hid (show (Rd.S true false t).map Rd.chain = .bad q from by rw [hS, hSi, Rd.pre_bad hD]; rfl)
      clear hC hq hql hp1 hat1 hg1 hS hT hbx hbe hsk hk hDk hD hgood hSi
      rcases hvar with hv1 | ⟨hv1, hv2⟩
      all_goals
       go_upto_region 5 with (first | (go_at_call 36; refine HC.out.mono ?_; rintro e' w1 ⟨rfl, hgo⟩; have hp9 := hgo.1; rw [HK.out] at hp9; have g0 := hp9.cell 0 rfl; have g1 := hp9.cell 1 rfl; have g2 := hp9.free 1; have g3 := hp9.lt; have HGO := Lib.hid hgo; have HP9 := Lib.hid hp9; clear hgo hp9))
       go_quiet (fail)
       go_wp2_with (first | (go_at_call 9; refine (HD.out _ (BoxL.keep HP9.out (Below.selfN _ _))).mono ?_; rintro e' w2 ⟨rfl, ht2⟩))
       exact ⟨rfl, by rw [HF.out]; exact ⟨rfl, ((HTW.out.next HGO.out.2).next (Turned.of_below (Below.selfN _ _))).next ht2⟩⟩
     | ok x q =>
      rw [hD] at hDk hgood
      have HD := Lib.hid hDk
      have HS2 := Lib.hid (show Rd.S true false t = Rd.pre (l0 ++ [x]) (Rd.S true (!(l0 ++ [x]).isEmpty) q) from by rw [hS, hSi, Rd.pre_ok hD, show (!(l0 ++ [x]).isEmpty) = true from by cases l0 <;> rfl])
      have HQA := Lib.hid (hq.suf hgood.1)
      have hql2 : q.length < r1.length := Nat.lt_of_lt_of_le hgood.2 hql
      clear hC hq hql hp1 hat1 hg1 hS hT hbx hbe hsk hk hDk hD hgood hSi
      rcases hvar with hv1 | ⟨hv1, hv2⟩
      all_goals
       go_upto_region 5 with (first | (go_at_call 36; refine HC.out.mono ?_; rintro e' w1 ⟨rfl, hgo⟩; have hp9 := hgo.1; rw [HK.out] at hp9; have g0 := hp9.cell 0 rfl; have g1 := hp9.cell 1 rfl; have g2 := hp9.free 1; have g3 := hp9.lt; have HGO := Lib.hid hgo; have HP9 := Lib.hid hp9; clear hgo hp9))
       go_quiet (fail)
       go_wp2_with (first | (go_at_call 9; refine (HD.out _ (BoxL.keep HP9.out (Below.selfN _ _))).mono ?_; rintro e' w2 ⟨v, rfl, hrep, hgo2⟩; obtain ⟨k9, n9, d9, s9, o9, len9, cap9, rfl⟩ := agg_of hrep.unhide; have HREP := Lib.hid hrep; have HT2 := Lib.hid (show Turned (fun c => c = b) w1 w2 from (Turned.of_below (Below.selfN w1 _)).next hgo2.2); have HP2' := Lib.hid hgo2.1; clear hrep hgo2) | (at_builtin; refine wpList_grow rfl (.tmp 32) (.tmp 35) rfl (w.heap.size + 2) (w.heap.size + 2) w1.heap.size _ l0 x _ _ _ _ _ rfl ((HG.out.turned HGO.out.2 (LOW.out _)).turned HT2.out (LOW.out _)) HREP.out (Nat.le_trans hk1 HGO.out.2.size) (fun g hg => ((HG.out.turned HGO.out.2 (LOW.out _)).block hg).2) (by omega) (Nat.le_trans hk1 (Nat.le_trans HGO.out.2.size HT2.out.size)) rfl ?_))
       intro g cap w3 hg3 ht3
       have hrow : ∀ q, (Value.slice o3 len3 cap3).ownBlock = some q → w.heap.size + 1 < q := fun q hq => (HG.out.block hq).1
       have HT6 := Lib.hid (((HTW.out.next HGO.out.2).next HT2.out).trans ht3 (fun q hq hs => by have := hrow q hs; omega))
       have HPB := Lib.hid (show PB w3 b s (s.size - q.length) from ht3.box HP2'.out (fun hq => by have := hrow b hq; omega))
       have HB9 := Lib.hid (show Box5 w3 w.heap.size 30 (.int .i64 0) (.int .i64 0) (.int .i64 0) (.string ⟨#[]⟩) (.slice none 0 0) from (ht3.block _ (Nat.lt_of_lt_of_le HBX.out.lt (Nat.le_trans HGO.out.2.size HT2.out.size)) (fun hq => by have := hrow _ hq; omega)).trans ((HT2.out.block _ (Nat.lt_of_lt_of_le HBX.out.lt HGO.out.2.size) hne).trans ((HGO.out.2.block _ HBX.out.lt hne).trans HBX.out)))
       have HE9 := Lib.hid (show Box5 w3 (w.heap.size + 1) 30 (.int .i64 4) (.int .i64 0) (.int .i64 0) (.string ⟨#[]⟩) (.slice none 0 0) from (ht3.block _ (Nat.lt_of_lt_of_le hk1 (Nat.le_trans HGO.out.2.size HT2.out.size)) (fun hq => by have := hrow _ hq; omega)).trans ((HT2.out.block _ (Nat.lt_of_lt_of_le hk1 HGO.out.2.size) hnb1).trans ((HGO.out.2.block _ hk1 hnb1).trans HBE.out)))
       have HG3 := Lib.hid hg3
       clear hg3 ht3 hrow g0 g1 g2 g3
       go_wp2_with fail
       go_roundg q.length
       case measure => omega
       case rel => exact Lib.hid ⟨_, q, l0 ++ [x], HPB.out, HQA.out, HG3.out, HS2.out, Nat.le_refl _, by rw [List.length_append]; simp; omega, HT6.out, HB9.out, HE9.out⟩
end
section
open Go Go.RowKit
theorem pdat_fin {b : Nat} {s : ByteArray} {q : List UInt8} {w W1 w2 : World} {x : Dat} {k9 n9 d9 : Int} {s9 : ByteArray} {o9 : Option Addr} {len9 cap9 : Nat} (hT : Turned (fun c => c = b) w W1) (hlt : w.heap.size < W1.heap.size) (hne : w.heap.size ≠ b)
  (hrep : RepD (hide w2 (Lo W1.heap.size)) w2.heap.size x (.agg #[.int .i64 k9, .int .i64 n9, .int .i64 d9, .string s9, .slice o9 len9 cap9]))  (hgo : PGo b s q W1 w2) :
  PDat b s (.ok x q) w (.returned (.agg #[.int .i64 k9, .int .i64 n9, .int .i64 d9, .string s9, .slice o9 len9 cap9])) (set5 w2 w.heap.size (.int .i64 k9) (.int .i64 n9) (.int .i64 d9) (.string s9) (.slice o9 len9 cap9)) := by
 refine ⟨_, rfl, hrep.shown ((Shown.five w2 (S := Lo W1.heap.size) hlt _ _ _ _ _).trans (Shown.less _ fun q _ hq => by unfold Lo at hq ⊢; omega)) (by rw [set5_size]; exact Nat.le_refl _), ?_, turned_low (hT.next hgo.2) (set5_below _ _ _ _ _ _ _ _ (Nat.le_refl _))⟩
 exact (set5_heap _ _ _ _ _ _ _ (Ne.symm hne)).trans hgo.1
theorem pdat_fin2 {b : Nat} {s : ByteArray} {q : List UInt8} {w w2 : World} {x : Dat} {E : Nat} {k9 n9 d9 : Int} {s9 : ByteArray} {o9 : Option Addr} {len9 cap9 : Nat} (hT : Turned (fun c => c = b) w w2) (hlt : w.heap.size < E) (hne : w.heap.size ≠ b)
  (hrep : RepD (hide w2 (Lo E)) w2.heap.size x (.agg #[.int .i64 k9, .int .i64 n9, .int .i64 d9, .string s9, .slice o9 len9 cap9]))  (hP : PB w2 b s (s.size - q.length)) :
  PDat b s (.ok x q) w (.returned (.agg #[.int .i64 k9, .int .i64 n9, .int .i64 d9, .string s9, .slice o9 len9 cap9])) (set5 w2 w.heap.size (.int .i64 k9) (.int .i64 n9) (.int .i64 d9) (.string s9) (.slice o9 len9 cap9)) := by
 refine ⟨_, rfl, hrep.shown ((Shown.five w2 (S := Lo E) hlt _ _ _ _ _).trans (Shown.less _ fun q _ hq => by unfold Lo at hq ⊢; omega)) (by rw [set5_size]; exact Nat.le_refl _), ?_, turned_low hT (set5_below _ _ _ _ _ _ _ _ (Nat.le_refl _))⟩
 exact (set5_heap _ _ _ _ _ _ _ (Ne.symm hne)).trans hP
theorem repS_two {W : World} {S : Nat → Prop} {x y : Dat} {a0 a1 a2 a3 a4 b0 b1 b2 b3 b4 : Value} (hS : ∀ b, S b → b < W.heap.size) (hx : RepD (hide W S) W.heap.size x (.agg #[a0, a1, a2, a3, a4])) (hy : RepD (hide W S) W.heap.size y (.agg #[b0, b1, b2, b3, b4])) (t : TypeId) :
  RepS (hide (W.alloc (.cells #[a0, a1, a2, a3, a4, b0, b1, b2, b3, b4] t)) S) (W.alloc (.cells #[a0, a1, a2, a3, a4, b0, b1, b2, b3, b4] t)).heap.size [x, y] (.slice (some ⟨W.heap.size, 0, none⟩) 2 2) := by
 have hk : Shown W S (W.alloc (.cells #[a0, a1, a2, a3, a4, b0, b1, b2, b3, b4] t)) S := Shown.below (Below.one _ _)
 have hn : ∀ i v, #[a0, a1, a2, a3, a4, b0, b1, b2, b3, b4][i]? = some v → (hide (W.alloc (.cells #[a0, a1, a2, a3, a4, b0, b1, b2, b3, b4] t)) S).cell? ⟨W.heap.size, i, none⟩ = some v := fun i v h => by
  rw [hide_other (fun e => by have := hS _ e; omega), World.cell?_alloc_at _ _ _ _ rfl]; exact h
 refine ⟨some ⟨W.heap.size, 0, none⟩, 2, 2, rfl, rfl, by omega, by omega, fun _ => ⟨rfl, by simp⟩, ?_⟩
 exact RepC.two (hn 0 _ rfl) (hn 1 _ rfl) (hn 2 _ rfl) (hn 3 _ rfl) (hn 4 _ rfl) (hn 5 _ rfl) (hn 6 _ rfl) (hn 7 _ rfl) (hn 8 _ rfl) (hn 9 _ rfl) (hx.shown hk (by simp)) (hy.shown hk (by simp))
theorem pdatum_step (n : Nat) (H : PDatOk n) (b : Nat) (s : ByteArray) (a : Nat) (r : List UInt8) (w : World) (hr : r.length < n + 1) (hp : PB w b s a) (hat : Rd.At s a r) (hs : s.size ≤ 65536) :
  Calls Tryd.prog 9 #[.pointer (some ⟨b, 0, none⟩)] w (PDat b s (Rd.D r) w) := by
 have hb := hp.lt
 have hne : w.heap.size ≠ b := by omega
 obtain ⟨W0, hW0⟩ : ∃ W0, w.alloc (.cells #[.int .i64 0, .int .i64 0, .int .i64 0, .string ⟨#[]⟩, .slice none 0 0] 30) = W0 := ⟨_, rfl⟩
 have HW0 := Lib.hid hW0
 have HB0 := Lib.hid (show Box5 W0 w.heap.size 30 (.int .i64 0) (.int .i64 0) (.int .i64 0) (.string ⟨#[]⟩) (.slice none 0 0) from by rw [← hW0]; exact Box5.new w _ _ _ _ _ _)
 have HP0 := Lib.hid (show PB W0 b s a from by rw [← hW0]; exact BoxL.alloc hp _)
 have HT0 := Lib.hid (show Turned (fun c => c = b) w W0 from by rw [← hW0]; exact Turned.of_below (Below.one _ _))
 clear hW0
 have hC := pblanks_any b s a r W0 HP0.out hat hs
 have hq := hat.suf (Rd.skip_suf r false)
 have hql := Rd.skip_le r false
 have hD := Rd.D_eq r
 unfold Rd.datF at hD
 cases hsk : Rd.skip false r with
 | nil =>
  rw [hsk] at hC hD
  have hd : decide (s.size - ([] : List UInt8).length < s.size) = false := by simp
  rw [hd] at hC
  have HC := Lib.hid hC
  have HD := Lib.hid hD
  clear hp hat hC hq hql hD hsk hd
  go_enter Tryd.func9, Tryd.ntmps9
  go_upto_region 1 with fail
  rw [HW0.out]
  go_wp2_with (first | (go_at_call 8; refine HC.out.mono ?_; rintro e' w1 ⟨rfl, hg⟩; have c1 := hg.1.cell 1 rfl; have hl := hg.1.lt; have HT := Lib.hid hg.2; clear hg))
  exact ⟨rfl, by rw [HD.out]; exact ⟨rfl, HT0.out.next HT.out⟩⟩
 | cons c t =>
  rw [hsk] at hC hD hq hql
  simp only [List.length_cons] at hql
  have hd : decide (s.size - (c :: t).length < s.size) = true := by have := hq.1; simp only [List.length_cons, decide_eq_true_eq] at this ⊢; omega
  rw [hd] at hC
  have HC := Lib.hid hC
  have HD := Lib.hid (show Rd.D r = Rd.headF Rd.D Rd.S c t from hD)
  obtain ⟨hlt, hget⟩ := hq.get
  obtain ⟨k, hk⟩ : ∃ k, s.size - (c :: t).length = k := ⟨_, rfl⟩
  have hget2 : ∃ h : k < s.size, s[k] = c := by subst hk; exact ⟨hlt, hget⟩
  obtain ⟨hlt2, hgt⟩ := hget2
  have HK := Lib.hid hk
  have hqk : Rd.At s k (c :: t) := by rw [← hk]; exact hq
  have HQ := Lib.hid hqk
  obtain ⟨ix, hix⟩ : ∃ ix, Lib.indexByte Rd.wordsL c = ix := ⟨_, rfl⟩
  have HI := Lib.hid (fun W => idx_any c ix hix W)
  have hmk := idx_mark c
  rw [hix] at hmk
  have q34 : ((c.toNat : Int) == 34) = decide (c = 34) := u8_eq c 34
  have q39 : ((c.toNat : Int) == 39) = decide (c = 39) := u8_eq c 39
  have q35 : ((c.toNat : Int) == 35) = decide (c = 35) := u8_eq c 35
  have q40 : ((c.toNat : Int) == 40) = decide (c = 40) := u8_eq c 40
  have htn : t.length < n := by omega
  clear hp hat hC hq hql hD hsk hd hk hget hlt hix hqk
  have HD0 := HD.out
  unfold Rd.headF at HD0
  by_cases hm : Rd.mark c = true
  ·have hix0 : 0 ≤ ix := hmk.2 hm
   rw [if_pos hm] at HD0
   replace HD := Lib.hid HD0
   clear hmk hm HD0 q34 q39 q35 q40
   have hcl : ∀ W, PB W b s k → Calls Tryd.prog 17 #[.pointer (some ⟨b, 0, none⟩)] W (PDat b s (Rd.word (c :: t)) W) := fun W hW => pword_any b s k (c :: t) W hW HQ.out hs
   cases hres : Rd.word (c :: t) with
   | bad q =>
    rw [hres] at hcl
    replace HD := Lib.hid (HD.out.trans hres)
    have HCL := Lib.hid hcl
    clear hcl hres
    go_enter Tryd.func9, Tryd.ntmps9
    go_upto_region 1 with fail
    rw [HW0.out]
    go_upto_region 3 with (first | (go_at_call 8; refine HC.out.mono ?_; rintro e' w1 ⟨rfl, hg⟩; have hp9 := hg.1; rw [HK.out] at hp9; have c0 := hp9.cell 0 rfl; have c1 := hp9.cell 1 rfl; have c2 := hp9.free 1; have hl := hp9.lt; have HP9 := Lib.hid hp9; have HT := Lib.hid hg.2; clear hg hp9))
    go_quiet (fail)
    have hp1 : PB (w1.drewN nq) b s k := BoxL.keep HP9.out (Below.selfN _ _)
    have ht1 : Turned (fun c => c = b) w (w1.drewN nq) := HT0.out.next (HT.out.next (Turned.of_below (Below.selfN _ _)))
    have hb1 : Box5 (w1.drewN nq) w.heap.size 30 (.int .i64 0) (.int .i64 0) (.int .i64 0) (.string ⟨#[]⟩) (.slice none 0 0) := (HT.out.block _ HB0.out.lt hne).trans HB0.out
    generalize w1.drewN nq = W1 at hp1 ht1 hb1 ⊢
    have HP1 := Lib.hid hp1
    have HT1 := Lib.hid ht1
    have HB1 := Lib.hid hb1
    have hl1 := hb1.lt
    clear hp1 ht1 hb1 c0 c1 c2 hl
    go_wp2_with (first | (go_at_call 16; refine (HI.out _).mono ?_; rintro e' w5 ⟨rfl, rfl⟩) | (go_at_call 17; refine (HCL.out _ HP1.out).mono ?_; rintro e' w2 ⟨rfl, ht2⟩))
    exact ⟨rfl, by rw [HD.out]; exact ⟨rfl, HT1.out.next ht2⟩⟩
   | ok x q =>
    rw [hres] at hcl
    replace HD := Lib.hid (HD.out.trans hres)
    have HCL := Lib.hid hcl
    clear hcl hres
    go_enter Tryd.func9, Tryd.ntmps9
    go_upto_region 1 with fail
    rw [HW0.out]
    go_upto_region 3 with (first | (go_at_call 8; refine HC.out.mono ?_; rintro e' w1 ⟨rfl, hg⟩; have hp9 := hg.1; rw [HK.out] at hp9; have c0 := hp9.cell 0 rfl; have c1 := hp9.cell 1 rfl; have c2 := hp9.free 1; have hl := hp9.lt; have HP9 := Lib.hid hp9; have HT := Lib.hid hg.2; clear hg hp9))
    go_quiet (fail)
    have hp1 : PB (w1.drewN nq) b s k := BoxL.keep HP9.out (Below.selfN _ _)
    have ht1 : Turned (fun c => c = b) w (w1.drewN nq) := HT0.out.next (HT.out.next (Turned.of_below (Below.selfN _ _)))
    have hb1 : Box5 (w1.drewN nq) w.heap.size 30 (.int .i64 0) (.int .i64 0) (.int .i64 0) (.string ⟨#[]⟩) (.slice none 0 0) := (HT.out.block _ HB0.out.lt hne).trans HB0.out
    generalize w1.drewN nq = W1 at hp1 ht1 hb1 ⊢
    have HP1 := Lib.hid hp1
    have HT1 := Lib.hid ht1
    have HB1 := Lib.hid hb1
    have hl1 := hb1.lt
    clear hp1 ht1 hb1 c0 c1 c2 hl
    go_wp2_with (first | (go_at_call 16; refine (HI.out _).mono ?_; rintro e' w5 ⟨rfl, rfl⟩) | (go_at_call 17; refine (HCL.out _ HP1.out).mono ?_; rintro e' w2 ⟨v, rfl, hrep, hgo2⟩; obtain ⟨k9, n9, d9, s9, o9, len9, cap9, rfl⟩ := agg_of hrep.unhide; have hb2 : Box5 w2 w.heap.size 30 (.int .i64 0) (.int .i64 0) (.int .i64 0) (.string ⟨#[]⟩) (.slice none 0 0) := (hgo2.2.block _ HB1.out.lt hne).trans HB1.out; obtain ⟨p0, p1, p2, p3, p4⟩ := hb2.cells; obtain ⟨z0, z1, z2, z3, z4⟩ := hb2.free; have pl := hb2.lt; have HB2 := Lib.hid hb2; have HREP := Lib.hid hrep; have HGO2 := Lib.hid hgo2; clear hb2 hrep hgo2))
    have HR5 := Lib.hid (HB2.out.set (.int .i64 k9) (.int .i64 n9) (.int .i64 d9) (.string s9) (.slice o9 len9 cap9))
    obtain ⟨r0, r1, r2, r3, r4⟩ := HR5.out.cells
    refine bodyPost_ret (v := .agg #[.int .i64 k9, .int .i64 n9, .int .i64 d9, .string s9, .slice o9 len9 cap9]) (by simp [results, Tryd.results9, go_sem, r0, r1, r2, r3, r4]) rfl ?_
    rw [HD.out]
    exact pdat_fin HT1.out hl1 hne HREP.out HGO2.out
  have hix0 : ix < 0 := by
   have : ¬ 0 ≤ ix := fun h => hm (hmk.1 h)
   omega
  rw [if_neg hm] at HD0
  clear hmk hm
  by_cases h34 : c = 34
  ·rw [decide_eq_true h34] at q34
   rw [if_pos h34] at HD0
   replace HD := Lib.hid HD0
   have HQ2 := Lib.hid (show Rd.At s k (34 :: t) from h34 ▸ HQ.out)
   clear HD0 h34
   have hcl : ∀ W, PB W b s k → Calls Tryd.prog 18 #[.pointer (some ⟨b, 0, none⟩)] W (PDat b s (Rd.str t) W) := fun W hW => ptext_any b s k t W hW HQ2.out hs
   cases hres : Rd.str t with
   | bad q =>
    rw [hres] at hcl
    replace HD := Lib.hid (HD.out.trans hres)
    have HCL := Lib.hid hcl
    clear hcl hres
    go_enter Tryd.func9, Tryd.ntmps9
    go_upto_region 1 with fail
    rw [HW0.out]
    go_upto_region 3 with (first | (go_at_call 8; refine HC.out.mono ?_; rintro e' w1 ⟨rfl, hg⟩; have hp9 := hg.1; rw [HK.out] at hp9; have c0 := hp9.cell 0 rfl; have c1 := hp9.cell 1 rfl; have c2 := hp9.free 1; have hl := hp9.lt; have HP9 := Lib.hid hp9; have HT := Lib.hid hg.2; clear hg hp9))
    go_quiet (fail)
    have hp1 : PB (w1.drewN nq) b s k := BoxL.keep HP9.out (Below.selfN _ _)
    have ht1 : Turned (fun c => c = b) w (w1.drewN nq) := HT0.out.next (HT.out.next (Turned.of_below (Below.selfN _ _)))
    have hb1 : Box5 (w1.drewN nq) w.heap.size 30 (.int .i64 0) (.int .i64 0) (.int .i64 0) (.string ⟨#[]⟩) (.slice none 0 0) := (HT.out.block _ HB0.out.lt hne).trans HB0.out
    generalize w1.drewN nq = W1 at hp1 ht1 hb1 ⊢
    have HP1 := Lib.hid hp1
    have HT1 := Lib.hid ht1
    have HB1 := Lib.hid hb1
    have hl1 := hb1.lt
    clear hp1 ht1 hb1 c0 c1 c2 hl
    go_wp2_with (first | (go_at_call 16; refine (HI.out _).mono ?_; rintro e' w5 ⟨rfl, rfl⟩) | (go_at_call 18; refine (HCL.out _ HP1.out).mono ?_; rintro e' w2 ⟨rfl, ht2⟩))
    exact ⟨rfl, by rw [HD.out]; exact ⟨rfl, HT1.out.next ht2⟩⟩
   | ok x q =>
    rw [hres] at hcl
    replace HD := Lib.hid (HD.out.trans hres)
    have HCL := Lib.hid hcl
    clear hcl hres
    go_enter Tryd.func9, Tryd.ntmps9
    go_upto_region 1 with fail
    rw [HW0.out]
    go_upto_region 3 with (first | (go_at_call 8; refine HC.out.mono ?_; rintro e' w1 ⟨rfl, hg⟩; have hp9 := hg.1; rw [HK.out] at hp9; have c0 := hp9.cell 0 rfl; have c1 := hp9.cell 1 rfl; have c2 := hp9.free 1; have hl := hp9.lt; have HP9 := Lib.hid hp9; have HT := Lib.hid hg.2; clear hg hp9))
    go_quiet (fail)
    have hp1 : PB (w1.drewN nq) b s k := BoxL.keep HP9.out (Below.selfN _ _)
    have ht1 : Turned (fun c => c = b) w (w1.drewN nq) := HT0.out.next (HT.out.next (Turned.of_below (Below.selfN _ _)))
    have hb1 : Box5 (w1.drewN nq) w.heap.size 30 (.int .i64 0) (.int .i64 0) (.int .i64 0) (.string ⟨#[]⟩) (.slice none 0 0) := (HT.out.block _ HB0.out.lt hne).trans HB0.out
    generalize w1.drewN nq = W1 at hp1 ht1 hb1 ⊢
    have HP1 := Lib.hid hp1
    have HT1 := Lib.hid ht1
    have HB1 := Lib.hid hb1
    have hl1 := hb1.lt
    clear hp1 ht1 hb1 c0 c1 c2 hl
    go_wp2_with (first | (go_at_call 16; refine (HI.out _).mono ?_; rintro e' w5 ⟨rfl, rfl⟩) | (go_at_call 18; refine (HCL.out _ HP1.out).mono ?_; rintro e' w2 ⟨v, rfl, hrep, hgo2⟩; obtain ⟨k9, n9, d9, s9, o9, len9, cap9, rfl⟩ := agg_of hrep.unhide; have hb2 : Box5 w2 w.heap.size 30 (.int .i64 0) (.int .i64 0) (.int .i64 0) (.string ⟨#[]⟩) (.slice none 0 0) := (hgo2.2.block _ HB1.out.lt hne).trans HB1.out; obtain ⟨p0, p1, p2, p3, p4⟩ := hb2.cells; obtain ⟨z0, z1, z2, z3, z4⟩ := hb2.free; have pl := hb2.lt; have HB2 := Lib.hid hb2; have HREP := Lib.hid hrep; have HGO2 := Lib.hid hgo2; clear hb2 hrep hgo2))
    have HR5 := Lib.hid (HB2.out.set (.int .i64 k9) (.int .i64 n9) (.int .i64 d9) (.string s9) (.slice o9 len9 cap9))
    obtain ⟨r0, r1, r2, r3, r4⟩ := HR5.out.cells
    refine bodyPost_ret (v := .agg #[.int .i64 k9, .int .i64 n9, .int .i64 d9, .string s9, .slice o9 len9 cap9]) (by simp [results, Tryd.results9, go_sem, r0, r1, r2, r3, r4]) rfl ?_
    rw [HD.out]
    exact pdat_fin HT1.out hl1 hne HREP.out HGO2.out
  rw [decide_eq_false h34] at q34
  rw [if_neg h34] at HD0
  by_cases h39 : c = 39
  ·rw [decide_eq_true h39] at q39
   rw [if_pos h39] at HD0
   replace HD := Lib.hid HD0
   clear HD0 h34
   have hq1 : Rd.At s (k + 1) t := HQ.out.cons
   have HADD3 := Lib.hid (show ((k : Int) + 1) = ((k + 1 : Nat) : Int) from by omega)
   have hcl : ∀ W, PB W b s (k + 1) → Calls Tryd.prog 9 #[.pointer (some ⟨b, 0, none⟩)] W (PDat b s (Rd.D t) W) := fun W hW => H b s _ t W htn hW hq1 hs
   clear h39
   cases hres : Rd.D t with
   | bad q =>
    rw [hres] at hcl
    replace HD := Lib.hid (show Rd.D r = .bad q from by rw [HD.out, hres]; rfl)
    have HCL := Lib.hid hcl
    clear hcl hres hq1
    go_enter Tryd.func9, Tryd.ntmps9
    go_upto_region 1 with fail
    rw [HW0.out]
    go_upto_region 3 with (first | (go_at_call 8; refine HC.out.mono ?_; rintro e' w1 ⟨rfl, hg⟩; have hp9 := hg.1; rw [HK.out] at hp9; have c0 := hp9.cell 0 rfl; have c1 := hp9.cell 1 rfl; have c2 := hp9.free 1; have hl := hp9.lt; have HP9 := Lib.hid hp9; have HT := Lib.hid hg.2; clear hg hp9))
    go_quiet (fail)
    have hp1 : PB (w1.drewN nq) b s k := BoxL.keep HP9.out (Below.selfN _ _)
    have ht1 : Turned (fun c => c = b) w (w1.drewN nq) := HT0.out.next (HT.out.next (Turned.of_below (Below.selfN _ _)))
    have hb1 : Box5 (w1.drewN nq) w.heap.size 30 (.int .i64 0) (.int .i64 0) (.int .i64 0) (.string ⟨#[]⟩) (.slice none 0 0) := (HT.out.block _ HB0.out.lt hne).trans HB0.out
    generalize w1.drewN nq = W1 at hp1 ht1 hb1 ⊢
    have HP1 := Lib.hid hp1
    have HT1 := Lib.hid ht1
    have HB1 := Lib.hid hb1
    have hl1 := hb1.lt
    clear hp1 ht1 hb1 c0 c1 c2 hl
    have f1 := HP1.out.cell 1 rfl
    have f2 := HP1.out.free 1
    have fl := HP1.out.lt
    go_upto_region 10 with (first | (go_at_call 16; refine (HI.out _).mono ?_; rintro e' w5 ⟨rfl, rfl⟩))
    rw [HADD3.out]
    have hp3 : PB (w5.setCell ⟨b, 1, none⟩ (.int .i64 ((k + 1 : Nat) : Int))) b s (k + 1) := PB.set HP1.out _
    have ht3 : Turned (fun c => c = b) w5 (w5.setCell ⟨b, 1, none⟩ (.int .i64 ((k + 1 : Nat) : Int))) := Turned.set _ _ _ rfl
    generalize w5.setCell ⟨b, 1, none⟩ (.int .i64 ((k + 1 : Nat) : Int)) = W3 at hp3 ht3 ⊢
    have HP3 := Lib.hid hp3
    have HT3 := Lib.hid ht3
    clear hp3 ht3 f1 f2 fl
    go_wp2_with (first | (go_at_call 9; refine (HCL.out _ HP3.out).mono ?_; rintro e' w2 ⟨rfl, ht2⟩))
    exact ⟨rfl, by rw [HD.out]; exact ⟨rfl, (HT1.out.next HT3.out).next ht2⟩⟩
   | ok x q =>
    rw [hres] at hcl
    replace HD := Lib.hid (show Rd.D r = .ok (Rd.quoted x) q from by rw [HD.out, hres]; rfl)
    have HCL := Lib.hid hcl
    clear hcl hres hq1
    go_enter Tryd.func9, Tryd.ntmps9
    go_upto_region 1 with fail
    rw [HW0.out]
    go_upto_region 3 with (first | (go_at_call 8; refine HC.out.mono ?_; rintro e' w1 ⟨rfl, hg⟩; have hp9 := hg.1; rw [HK.out] at hp9; have c0 := hp9.cell 0 rfl; have c1 := hp9.cell 1 rfl; have c2 := hp9.free 1; have hl := hp9.lt; have HP9 := Lib.hid hp9; have HT := Lib.hid hg.2; clear hg hp9))
    go_quiet (fail)
    have hp1 : PB (w1.drewN nq) b s k := BoxL.keep HP9.out (Below.selfN _ _)
    have ht1 : Turned (fun c => c = b) w (w1.drewN nq) := HT0.out.next (HT.out.next (Turned.of_below (Below.selfN _ _)))
    have hb1 : Box5 (w1.drewN nq) w.heap.size 30 (.int .i64 0) (.int .i64 0) (.int .i64 0) (.string ⟨#[]⟩) (.slice none 0 0) := (HT.out.block _ HB0.out.lt hne).trans HB0.out
    generalize w1.drewN nq = W1 at hp1 ht1 hb1 ⊢
    have HP1 := Lib.hid hp1
    have HT1 := Lib.hid ht1
    have HB1 := Lib.hid hb1
    have hl1 := hb1.lt
    clear hp1 ht1 hb1 c0 c1 c2 hl
    have f1 := HP1.out.cell 1 rfl
    have f2 := HP1.out.free 1
    have fl := HP1.out.lt
    go_upto_region 10 with (first | (go_at_call 16; refine (HI.out _).mono ?_; rintro e' w5 ⟨rfl, rfl⟩))
    rw [HADD3.out]
    have hp3 : PB (w5.setCell ⟨b, 1, none⟩ (.int .i64 ((k + 1 : Nat) : Int))) b s (k + 1) := PB.set HP1.out _
    have ht3 : Turned (fun c => c = b) w5 (w5.setCell ⟨b, 1, none⟩ (.int .i64 ((k + 1 : Nat) : Int))) := Turned.set _ _ _ rfl
    generalize w5.setCell ⟨b, 1, none⟩ (.int .i64 ((k + 1 : Nat) : Int)) = W3 at hp3 ht3 ⊢
    have HP3 := Lib.hid hp3
    have HT3 := Lib.hid ht3
    clear hp3 ht3 f1 f2 fl
    have hl3 : w.heap.size < W3.heap.size := Nat.lt_of_lt_of_le hl1 HT3.out.size
    go_wp2_with (first | (go_at_call 9; refine (HCL.out _ HP3.out).mono ?_; rintro e' w2 ⟨v, rfl, hrep, hgo2⟩; obtain ⟨k9, n9, d9, s9, o9, len9, cap9, rfl⟩ := agg_of hrep.unhide; have HREP0 := Lib.hid hrep; have HGO0 := Lib.hid hgo2; clear hrep hgo2) | (go_at_call 19; refine (listH_any (Lo (w.heap.size + 1)) [Rd.quoteD, x] _ _ _ (fun q hq => by have := HGO0.out.2.size; simp only [World.size_alloc]; unfold Lo at hq; omega) (repS_two (fun q hq => by have := HGO0.out.2.size; unfold Lo at hq; omega) (RepD.shut (by omega) (by omega) (by omega) (by decide) ⟨none, 0, 0, rfl, rfl, by omega, by omega, rfl, rfl⟩) (HREP0.out.shown (Shown.less _ fun q _ hq => by unfold Lo at hq ⊢; omega) (Nat.le_refl _)) _) (Nat.le_refl _)).mono ?_; rintro e' w6 ⟨v, rfl, hrep, hbl⟩; obtain ⟨k8, n8, d8, s8, o8, len8, cap8, rfl⟩ := agg_of hrep.unhide; have hbl2 : Below w2.heap.size w2 w6 := Below.next (Below.one w2 _) hbl; have hb3 : Box5 w6 w.heap.size 30 (.int .i64 0) (.int .i64 0) (.int .i64 0) (.string ⟨#[]⟩) (.slice none 0 0) := (hbl2.block _ (Nat.lt_of_lt_of_le hl3 HGO0.out.2.size)).trans ((HGO0.out.2.block _ hl3 hne).trans ((HT3.out.block _ hl1 hne).trans HB1.out)); obtain ⟨p0, p1, p2, p3, p4⟩ := hb3.cells; obtain ⟨z0, z1, z2, z3, z4⟩ := hb3.free; have pl := hb3.lt; have HB2 := Lib.hid hb3; have HREP := Lib.hid hrep; have HP6 := Lib.hid (show PB w6 b s (s.size - q.length) from BoxL.keep HGO0.out.1 hbl2); have HT6 := Lib.hid (((HT1.out.next HT3.out).next HGO0.out.2).next (Turned.of_below hbl2)); clear hb3 hrep hbl hbl2))
    have HR5 := Lib.hid (HB2.out.set (.int .i64 k8) (.int .i64 n8) (.int .i64 d8) (.string s8) (.slice o8 len8 cap8))
    obtain ⟨r0, r1, r2, r3, r4⟩ := HR5.out.cells
    refine bodyPost_ret (v := .agg #[.int .i64 k8, .int .i64 n8, .int .i64 d8, .string s8, .slice o8 len8 cap8]) (by simp [results, Tryd.results9, go_sem, r0, r1, r2, r3, r4]) rfl ?_
    rw [HD.out]
    exact pdat_fin2 HT6.out (Nat.lt_succ_self _) hne HREP.out HP6.out
  rw [decide_eq_false h39] at q39
  rw [if_neg h39] at HD0
  by_cases h35 : c = 35
  ·rw [decide_eq_true h35] at q35
   rw [if_pos h35] at HD0
   replace HD := Lib.hid HD0
   have HQ2 := Lib.hid (show Rd.At s k (35 :: t) from h35 ▸ HQ.out)
   clear HD0 h34 h39 h35
   have hcl : ∀ W, PB W b s k → Calls Tryd.prog 20 #[.pointer (some ⟨b, 0, none⟩)] W (PDat b s (Rd.hashF Rd.S t) W) := fun W hW => phash_any n H b s k t W (Nat.le_of_lt htn) hW HQ2.out hs
   cases hres : Rd.hashF Rd.S t with
   | bad q =>
    rw [hres] at hcl
    replace HD := Lib.hid (HD.out.trans hres)
    have HCL := Lib.hid hcl
    clear hcl hres
    go_enter Tryd.func9, Tryd.ntmps9
    go_upto_region 1 with fail
    rw [HW0.out]
    go_upto_region 3 with (first | (go_at_call 8; refine HC.out.mono ?_; rintro e' w1 ⟨rfl, hg⟩; have hp9 := hg.1; rw [HK.out] at hp9; have c0 := hp9.cell 0 rfl; have c1 := hp9.cell 1 rfl; have c2 := hp9.free 1; have hl := hp9.lt; have HP9 := Lib.hid hp9; have HT := Lib.hid hg.2; clear hg hp9))
    go_quiet (fail)
    have hp1 : PB (w1.drewN nq) b s k := BoxL.keep HP9.out (Below.selfN _ _)
    have ht1 : Turned (fun c => c = b) w (w1.drewN nq) := HT0.out.next (HT.out.next (Turned.of_below (Below.selfN _ _)))
    have hb1 : Box5 (w1.drewN nq) w.heap.size 30 (.int .i64 0) (.int .i64 0) (.int .i64 0) (.string ⟨#[]⟩) (.slice none 0 0) := (HT.out.block _ HB0.out.lt hne).trans HB0.out
    generalize w1.drewN nq = W1 at hp1 ht1 hb1 ⊢
    have HP1 := Lib.hid hp1
    have HT1 := Lib.hid ht1
    have HB1 := Lib.hid hb1
    have hl1 := hb1.lt
    clear hp1 ht1 hb1 c0 c1 c2 hl
    go_wp2_with (first | (go_at_call 16; refine (HI.out _).mono ?_; rintro e' w5 ⟨rfl, rfl⟩) | (go_at_call 20; refine (HCL.out _ HP1.out).mono ?_; rintro e' w2 ⟨rfl, ht2⟩))
    exact ⟨rfl, by rw [HD.out]; exact ⟨rfl, HT1.out.next ht2⟩⟩
   | ok x q =>
    rw [hres] at hcl
    replace HD := Lib.hid (HD.out.trans hres)
    have HCL := Lib.hid hcl
    clear hcl hres
    go_enter Tryd.func9, Tryd.ntmps9
    go_upto_region 1 with fail
    rw [HW0.out]
    go_upto_region 3 with (first | (go_at_call 8; refine HC.out.mono ?_; rintro e' w1 ⟨rfl, hg⟩; have hp9 := hg.1; rw [HK.out] at hp9; have c0 := hp9.cell 0 rfl; have c1 := hp9.cell 1 rfl; have c2 := hp9.free 1; have hl := hp9.lt; have HP9 := Lib.hid hp9; have HT := Lib.hid hg.2; clear hg hp9))
    go_quiet (fail)
    have hp1 : PB (w1.drewN nq) b s k := BoxL.keep HP9.out (Below.selfN _ _)
    have ht1 : Turned (fun c => c = b) w (w1.drewN nq) := HT0.out.next (HT.out.next (Turned.of_below (Below.selfN _ _)))
    have hb1 : Box5 (w1.drewN nq) w.heap.size 30 (.int .i64 0) (.int .i64 0) (.int .i64 0) (.string ⟨#[]⟩) (.slice none 0 0) := (HT.out.block _ HB0.out.lt hne).trans HB0.out
    generalize w1.drewN nq = W1 at hp1 ht1 hb1 ⊢
    have HP1 := Lib.hid hp1
    have HT1 := Lib.hid ht1
    have HB1 := Lib.hid hb1
    have hl1 := hb1.lt
    clear hp1 ht1 hb1 c0 c1 c2 hl
    go_wp2_with (first | (go_at_call 16; refine (HI.out _).mono ?_; rintro e' w5 ⟨rfl, rfl⟩) | (go_at_call 20; refine (HCL.out _ HP1.out).mono ?_; rintro e' w2 ⟨v, rfl, hrep, hgo2⟩; obtain ⟨k9, n9, d9, s9, o9, len9, cap9, rfl⟩ := agg_of hrep.unhide; have hb2 : Box5 w2 w.heap.size 30 (.int .i64 0) (.int .i64 0) (.int .i64 0) (.string ⟨#[]⟩) (.slice none 0 0) := (hgo2.2.block _ HB1.out.lt hne).trans HB1.out; obtain ⟨p0, p1, p2, p3, p4⟩ := hb2.cells; obtain ⟨z0, z1, z2, z3, z4⟩ := hb2.free; have pl := hb2.lt; have HB2 := Lib.hid hb2; have HREP := Lib.hid hrep; have HGO2 := Lib.hid hgo2; clear hb2 hrep hgo2))
    have HR5 := Lib.hid (HB2.out.set (.int .i64 k9) (.int .i64 n9) (.int .i64 d9) (.string s9) (.slice o9 len9 cap9))
    obtain ⟨r0, r1, r2, r3, r4⟩ := HR5.out.cells
    refine bodyPost_ret (v := .agg #[.int .i64 k9, .int .i64 n9, .int .i64 d9, .string s9, .slice o9 len9 cap9]) (by simp [results, Tryd.results9, go_sem, r0, r1, r2, r3, r4]) rfl ?_
    rw [HD.out]
    exact pdat_fin HT1.out hl1 hne HREP.out HGO2.out
  rw [decide_eq_false h35] at q35
  rw [if_neg h35] at HD0
  by_cases h40 : c = 40
  ·rw [decide_eq_true h40] at q40
   rw [if_pos h40] at HD0
   replace HD := Lib.hid HD0
   have HQ2 := Lib.hid (show Rd.At s k (40 :: t) from h40 ▸ HQ.out)
   clear HD0 h34 h39 h35 h40
   have hcl : ∀ W, PB W b s k → Calls Tryd.prog 21 #[.pointer (some ⟨b, 0, none⟩)] W (PDat b s ((Rd.S true false t).map Rd.chain) W) := fun W hW => plist_any n H b s k t W htn hW HQ2.out hs
   cases hres : (Rd.S true false t).map Rd.chain with
   | bad q =>
    rw [hres] at hcl
    replace HD := Lib.hid (HD.out.trans hres)
    have HCL := Lib.hid hcl
    clear hcl hres
    go_enter Tryd.func9, Tryd.ntmps9
    go_upto_region 1 with fail
    rw [HW0.out]
    go_upto_region 3 with (first | (go_at_call 8; refine HC.out.mono ?_; rintro e' w1 ⟨rfl, hg⟩; have hp9 := hg.1; rw [HK.out] at hp9; have c0 := hp9.cell 0 rfl; have c1 := hp9.cell 1 rfl; have c2 := hp9.free 1; have hl := hp9.lt; have HP9 := Lib.hid hp9; have HT := Lib.hid hg.2; clear hg hp9))
    go_quiet (fail)
    have hp1 : PB (w1.drewN nq) b s k := BoxL.keep HP9.out (Below.selfN _ _)
    have ht1 : Turned (fun c => c = b) w (w1.drewN nq) := HT0.out.next (HT.out.next (Turned.of_below (Below.selfN _ _)))
    have hb1 : Box5 (w1.drewN nq) w.heap.size 30 (.int .i64 0) (.int .i64 0) (.int .i64 0) (.string ⟨#[]⟩) (.slice none 0 0) := (HT.out.block _ HB0.out.lt hne).trans HB0.out
    generalize w1.drewN nq = W1 at hp1 ht1 hb1 ⊢
    have HP1 := Lib.hid hp1
    have HT1 := Lib.hid ht1
    have HB1 := Lib.hid hb1
    have hl1 := hb1.lt
    clear hp1 ht1 hb1 c0 c1 c2 hl
    go_wp2_with (first | (go_at_call 16; refine (HI.out _).mono ?_; rintro e' w5 ⟨rfl, rfl⟩) | (go_at_call 21; refine (HCL.out _ HP1.out).mono ?_; rintro e' w2 ⟨rfl, ht2⟩))
    exact ⟨rfl, by rw [HD.out]; exact ⟨rfl, HT1.out.next ht2⟩⟩
   | ok x q =>
    rw [hres] at hcl
    replace HD := Lib.hid (HD.out.trans hres)
    have HCL := Lib.hid hcl
    clear hcl hres
    go_enter Tryd.func9, Tryd.ntmps9
    go_upto_region 1 with fail
    rw [HW0.out]
    go_upto_region 3 with (first | (go_at_call 8; refine HC.out.mono ?_; rintro e' w1 ⟨rfl, hg⟩; have hp9 := hg.1; rw [HK.out] at hp9; have c0 := hp9.cell 0 rfl; have c1 := hp9.cell 1 rfl; have c2 := hp9.free 1; have hl := hp9.lt; have HP9 := Lib.hid hp9; have HT := Lib.hid hg.2; clear hg hp9))
    go_quiet (fail)
    have hp1 : PB (w1.drewN nq) b s k := BoxL.keep HP9.out (Below.selfN _ _)
    have ht1 : Turned (fun c => c = b) w (w1.drewN nq) := HT0.out.next (HT.out.next (Turned.of_below (Below.selfN _ _)))
    have hb1 : Box5 (w1.drewN nq) w.heap.size 30 (.int .i64 0) (.int .i64 0) (.int .i64 0) (.string ⟨#[]⟩) (.slice none 0 0) := (HT.out.block _ HB0.out.lt hne).trans HB0.out
    generalize w1.drewN nq = W1 at hp1 ht1 hb1 ⊢
    have HP1 := Lib.hid hp1
    have HT1 := Lib.hid ht1
    have HB1 := Lib.hid hb1
    have hl1 := hb1.lt
    clear hp1 ht1 hb1 c0 c1 c2 hl
    go_wp2_with (first | (go_at_call 16; refine (HI.out _).mono ?_; rintro e' w5 ⟨rfl, rfl⟩) | (go_at_call 21; refine (HCL.out _ HP1.out).mono ?_; rintro e' w2 ⟨v, rfl, hrep, hgo2⟩; obtain ⟨k9, n9, d9, s9, o9, len9, cap9, rfl⟩ := agg_of hrep.unhide; have hb2 : Box5 w2 w.heap.size 30 (.int .i64 0) (.int .i64 0) (.int .i64 0) (.string ⟨#[]⟩) (.slice none 0 0) := (hgo2.2.block _ HB1.out.lt hne).trans HB1.out; obtain ⟨p0, p1, p2, p3, p4⟩ := hb2.cells; obtain ⟨z0, z1, z2, z3, z4⟩ := hb2.free; have pl := hb2.lt; have HB2 := Lib.hid hb2; have HREP := Lib.hid hrep; have HGO2 := Lib.hid hgo2; clear hb2 hrep hgo2))
    have HR5 := Lib.hid (HB2.out.set (.int .i64 k9) (.int .i64 n9) (.int .i64 d9) (.string s9) (.slice o9 len9 cap9))
    obtain ⟨r0, r1, r2, r3, r4⟩ := HR5.out.cells
    refine bodyPost_ret (v := .agg #[.int .i64 k9, .int .i64 n9, .int .i64 d9, .string s9, .slice o9 len9 cap9]) (by simp [results, Tryd.results9, go_sem, r0, r1, r2, r3, r4]) rfl ?_
    rw [HD.out]
    exact pdat_fin HT1.out hl1 hne HREP.out HGO2.out
  rw [decide_eq_false h40] at q40
  rw [if_neg h40] at HD0
  replace HD := Lib.hid HD0
  clear HD0 h34 h39 h35 h40
  go_enter Tryd.func9, Tryd.ntmps9
  go_upto_region 1 with fail
  rw [HW0.out]
  go_upto_region 3 with (first | (go_at_call 8; refine HC.out.mono ?_; rintro e' w1 ⟨rfl, hg⟩; have hp9 := hg.1; rw [HK.out] at hp9; have c0 := hp9.cell 0 rfl; have c1 := hp9.cell 1 rfl; have c2 := hp9.free 1; have hl := hp9.lt; have HP9 := Lib.hid hp9; have HT := Lib.hid hg.2; clear hg hp9))
  go_quiet (fail)
  have hp1 : PB (w1.drewN nq) b s k := BoxL.keep HP9.out (Below.selfN _ _)
  have ht1 : Turned (fun c => c = b) w (w1.drewN nq) := HT0.out.next (HT.out.next (Turned.of_below (Below.selfN _ _)))
  have hb1 : Box5 (w1.drewN nq) w.heap.size 30 (.int .i64 0) (.int .i64 0) (.int .i64 0) (.string ⟨#[]⟩) (.slice none 0 0) := (HT.out.block _ HB0.out.lt hne).trans HB0.out
  generalize w1.drewN nq = W1 at hp1 ht1 hb1 ⊢
  have HP1 := Lib.hid hp1
  have HT1 := Lib.hid ht1
  have HB1 := Lib.hid hb1
  have hl1 := hb1.lt
  clear hp1 ht1 hb1 c0 c1 c2 hl
  have f1 := HP1.out.cell 1 rfl
  have fl := HP1.out.lt
  go_wp2_with (first | (go_at_call 16; refine (HI.out _).mono ?_; rintro e' w5 ⟨rfl, rfl⟩))
  exact ⟨rfl, by rw [HD.out]; exact ⟨by rw [HK.out]; rfl, HT1.out⟩⟩
theorem pdatum_ok : ∀ n, PDatOk n
 | 0 => fun _ _ _ _ _ h => by omega
 | n + 1 => fun b s a r w h hp hat hs => pdatum_step n (pdatum_ok n) b s a r w h hp hat hs
end
end Go.Proofs.YtpcneeekmhdhgaaDoor

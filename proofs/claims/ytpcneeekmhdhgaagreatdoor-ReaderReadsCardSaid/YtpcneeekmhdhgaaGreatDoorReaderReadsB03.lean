/-
  What the proofs lean on: RdR9, RdL4.
-/
import Derived.Test.YtpcneeekmhdhgaaGreatDoorRdzA11
import Derived.Test.YtpcneeekmhdhgaaGreatDoorRdzA12
import Derived.Test.YtpcneeekmhdhgaaGreatDoorReaderReadsB02
set_option maxRecDepth 100000
set_option maxHeartbeats 16000000
namespace Go.Proofs.YtpcneeekmhdhgaaGreatDoor
section
open Go Go.RowKit
def RSt (s : ByteArray) (l0 : List Dat) (a : Nat) (m : Int) (g : Nat) : Prop :=
 (∃ r, m = -1 ∧ Rd.At s a r ∧ Rd.A s.data.toList = (Rd.A r).map (l0 ++ ·) ∧ r.length + 1 ≤ g ∧ l0.length + r.length ≤ s.size) ∨
 (∃ q, m = ((s.size - q.length : Nat) : Int) ∧ Rd.A s.data.toList = .bad q)
def RInv (s : ByteArray) (w : World) (g : Nat) (lv : Value) (wr : World) : Prop := Hid (∃ (l0 : List Dat) (a' : Nat) (m : Int), RB wr w.heap.size s a' m ∧ GrownH wr (w.heap.size + 1) (w.heap.size + 1) l0 lv ∧ Below w.heap.size w wr ∧ RSt s l0 a' m g)
theorem rread_short (HD : ∀ n, RDatOk n) (s : ByteArray) (w : World) (hs : s.size ≤ 65536) : Calls Tryz.prog 15 #[.string s] w (ReadPost s w) := by
 have hd0 : decide (65536 < (s.size : Int)) = false := by simp; omega
 obtain ⟨W0, hW0⟩ : ∃ W0, w.alloc (.cells #[.string s, .int .i64 0, .int .i64 (-1)] 56) = W0 := ⟨_, rfl⟩
 have HI := Lib.hid (show RInv s w (s.size + 1) (.slice none 0 0) W0 from Lib.hid ⟨[], 0, -1, by rw [← hW0]; exact BoxL.new rfl _ _, GrownH.nil _ (Nat.le_refl _), by rw [← hW0]; exact Below.one _ _,
  .inl ⟨s.data.toList, rfl, Rd.At.zero s, by cases Rd.A s.data.toList <;> rfl, Nat.le_refl _, by simp only [List.length_nil, Nat.zero_add]; exact Nat.le_refl _⟩⟩)
 go_enter Tryz.func15, Tryz.ntmps15
 go_wp2_with fail
 clear hW0
 go_loopg [6] (s.size + 1) (fun g lv wr => RInv s w g lv wr)
 case atStart => exact HI.out
 case round =>
  obtain ⟨l0, a1, m, hrb, hg, hbl, hst⟩ := hrel.out
  clear hrel HI
  obtain ⟨o3, len3, cap3, hv3, hl3⟩ := hg.form
  subst hv3
  have HLN := Lib.hid hl3
  have HG := Lib.hid hg
  have HRB := Lib.hid hrb
  have HBL := Lib.hid hbl
  have hmb := hrb.cell 2 rfl
  have hzl := hrb.lt
  clear hl3 hg hbl
  rcases hst with ⟨r1, rfl, hat1, hA, hle, hlen⟩ | ⟨q, rfl, hA⟩
  ·have hC := rnext_any _ s a1 (-1) r1 wr hrb hat1 hs
   have hq := hat1.suf (Rd.skip_suf r1 false)
   have hql := Rd.skip_le r1 false
   obtain ⟨k, hk⟩ : ∃ k, s.size - (Rd.skip false r1).length = k := ⟨_, rfl⟩
   rw [hk] at hC
   cases hsk : Rd.skip false r1 with
   | nil =>
    rw [hsk] at hC hk
    have hkn : k = s.size := by simpa using hk.symm
    have heq : ((k : Int) == (s.size : Int)) = true := by simp; omega
    have HC := Lib.hid hC
    have HD2 := Lib.hid (readD_ok (l := l0) (q := []) hs (by rw [hA, Rd.A_nil hsk]; simp [Rd.Res.map]))
    clear hC hq hql hrb hat1 hA hsk hk hkn
    go_upto_region 7 with (first | (go_at_call 41; refine HC.out.mono ?_; rintro e' w1 ⟨rfl, hr1, ht1⟩; have c1 := hr1.cell 1 rfl; have hl := hr1.lt; have HP9 := Lib.hid hr1; have HT := Lib.hid ht1; clear hr1 ht1))
    go_wp2_with fail
    refine bodyPost_ret (v := .tuple #[.slice o3 len3 cap3, .int .i64 s.size, .int .i64 0]) (by simp [results, Tryz.results15, go_sem]) rfl ?_
    refine ⟨_, by rw [HD2.out]; rfl, by rw [HD2.out]; exact (HG.out.turned HT.out (fun q _ hq => by unfold Lo; omega)).rep.unhide, ⟨_, _, _, rfl⟩, HBL.out.trans (HT.out.below (fun q hq => by omega) HBL.out.size)⟩
   | cons c t =>
    rw [hsk] at hC hk hq hql
    simp only [List.length_cons] at hql
    have heq : ((k : Int) == (s.size : Int)) = false := by have := hq.1; simp only [List.length_cons] at this hk; simp; omega
    have HC := Lib.hid hC
    have hqk : Rd.At s k (c :: t) := by rw [← hk]; exact hq
    have hgood := Rd.D_good (c :: t)
    have hAc := Rd.A_cons hsk
    have HCL := Lib.hid (fun (W : World) (dp' : Int) (hW : RB W w.heap.size s k (-1)) => HD _ _ s k (c :: t) W dp' (Nat.lt_succ_self _) hW hqk hs)
    have HK := Lib.hid hk
    clear hC hrb hat1 hsk hk hq
    go_upto_region 10 with (first | (go_at_call 41; refine HC.out.mono ?_; rintro e' w1 ⟨rfl, hr1, ht1⟩; have c1 := hr1.cell 1 rfl; have hl := hr1.lt; have HP9 := Lib.hid hr1; have HT := Lib.hid ht1; clear hr1 ht1))
    go_upto_region 11 with (first | (go_at_call 42; refine (HCL.out _ _ HP9.out).mono ?_; rintro e' w2 ⟨x, k9, n9, d9, s9, o9, len9, cap9, a9, m9, rfl, hrep, hrb2, ht2, hf⟩))
    have hn01 : wr.heap.size ≤ w1.heap.size := HT.out.size
    have hn12 : w1.heap.size ≤ w2.heap.size := ht2.size
    have hb4 : Box5 (w2.alloc (.cells #[.int .i64 k9, .int .i64 n9, .int .i64 d9, .string s9, .slice o9 len9 cap9] 33)) w2.heap.size 33 (.int .i64 k9) (.int .i64 n9) (.int .i64 d9) (.string s9) (.slice o9 len9 cap9) := Box5.new w2 _ _ _ _ _ _
    have hr4 : RB (w2.alloc (.cells #[.int .i64 k9, .int .i64 n9, .int .i64 d9, .string s9, .slice o9 len9 cap9] 33)) w.heap.size s a9 m9 := BoxL.alloc hrb2 _
    have ht4 : Turned (fun c => c = w.heap.size) wr (w2.alloc (.cells #[.int .i64 k9, .int .i64 n9, .int .i64 d9, .string s9, .slice o9 len9 cap9] 33)) := (HT.out.next ht2).next (Turned.of_below (Below.one _ _))
    have hx4 : RepD (hide (w2.alloc (.cells #[.int .i64 k9, .int .i64 n9, .int .i64 d9, .string s9, .slice o9 len9 cap9] 33)) (Lo w1.heap.size)) (w2.alloc (.cells #[.int .i64 k9, .int .i64 n9, .int .i64 d9, .string s9, .slice o9 len9 cap9] 33)).heap.size x (.agg #[.int .i64 k9, .int .i64 n9, .int .i64 d9, .string s9, .slice o9 len9 cap9]) := hrep.shown (Shown.below (Below.one w2 _)) (by simp)
    generalize w2.alloc (.cells #[.int .i64 k9, .int .i64 n9, .int .i64 d9, .string s9, .slice o9 len9 cap9] 33) = W4 at hb4 hr4 ht4 hx4 ⊢
    generalize w2.heap.size = E at hb4 hn12 ⊢
    have HB4 := Lib.hid hb4
    have HR4 := Lib.hid hr4
    have HT4 := Lib.hid ht4
    have HX4 := Lib.hid hx4
    have HF := Lib.hid hf
    have u2 := hr4.cell 2 rfl
    have ul := hr4.lt
    obtain ⟨p0, p1, p2, p3, p4⟩ := hb4.cells
    have pl := hb4.lt
    have HG4 := Lib.hid (HG.out.turned ht4 (fun q _ hq => by unfold Lo; omega))
    have hz4 := ht4.size
    have hl0 : l0.length ≤ 1000000 := by omega
    have hk1 : w.heap.size + 1 ≤ w1.heap.size := by omega
    have HROW := Lib.hid (fun (g : Nat) (hg : (Value.slice o3 len3 cap3).ownBlock = some g) => Nat.lt_of_lt_of_le (HG.out.block hg).2 hn01)
    have HBL4 := Lib.hid (HBL.out.trans (ht4.below (fun q hq => by omega) HBL.out.size))
    clear hb4 hr4 ht4 hx4 hf hrb2 hrep ht2 c1 hl hmb
    cases hD : Rd.D (c :: t) with
    | bad q =>
     have hm9 := HF.out
     rw [hD] at hm9
     obtain rfl : m9 = ((s.size - q.length : Nat) : Int) := hm9
     have hlt9 : decide ((((s.size - q.length : Nat) : Int)) < 0) = false := by simp
     have HA2 := Lib.hid (show Rd.A s.data.toList = .bad q from by rw [hA, hAc, hD]; rfl)
     have HGX := HG4
     have HRX := HX4
     have HBX := HR4
     have HBLX := HBL4
     have hk2 : w.heap.size + 1 ≤ W4.heap.size := by omega
     clear hD hA hAc hgood hqk
     go_wp2_with (first | (at_builtin; refine wpList_grow rfl (.tmp 51) (.tmp 53) rfl (w.heap.size + 1) (w.heap.size + 1) w1.heap.size _ l0 x _ _ _ _ _ rfl HGX.out HRX.out hk1 (fun g hg => HROW.out g hg) hl0 hk2 rfl ?_))
     intro g7 cap7 w3 hg3 ht3
     have hrow : ∀ q, (Value.slice o3 len3 cap3).ownBlock = some q → w.heap.size < q := fun q hq => (HG.out.block hq).1
     have HPB := Lib.hid (show RB w3 w.heap.size s a9 ((s.size - q.length : Nat) : Int) from ht3.box HBX.out (fun hq => by have := hrow _ hq; omega))
     have HBL3 := Lib.hid (HBLX.out.trans (ht3.below (fun q hq => by have := hrow q hq; omega) HBLX.out.size))
     have HG3 := Lib.hid hg3
     clear hg3 ht3 hrow
     go_wp2_with fail
     go_roundg 0
     case measure => omega
     case rel => exact Lib.hid ⟨l0 ++ [x], a9, _, HPB.out, HG3.out, HBL3.out, .inr ⟨q, rfl, HA2.out⟩⟩
    | ok z q =>
     have hm9 := HF.out
     rw [hD] at hm9 hAc hgood
     obtain ⟨rfl, rfl, rfl⟩ := hm9
     have hRt := fun (W : World) (hW : Below W4.heap.size W4 W) (r : Bool) (hr : Dat.right x 0 = r) => rRight_to x (.agg #[.int .i64 k9, .int .i64 n9, .int .i64 d9, .string s9, .slice o9 len9 cap9]) W4.heap.size W r hr (HX4.out.unhide.kept hW) hW.size
     have HQA := Lib.hid (hqk.suf hgood.1)
     have hql2 : q.length < r1.length := by have := hgood.2; simp only [List.length_cons] at this; omega
     cases hri : Dat.right x 0 with
     | true =>
      have HRT := Lib.hid (hRt W4 (Below.refl _ _) true hri)
      have HA2 := Lib.hid (show Rd.A s.data.toList = (Rd.A q).map ((l0 ++ [x]) ++ ·) from by
       rw [hA, hAc]; simp only; rw [hri, if_pos rfl]
       cases Rd.A q <;> simp [Rd.Res.map])
      clear hD hA hAc hgood hqk hRt hri
      go_upto_region 13 with (first | (go_at_call 22; refine HRT.out.mono ?_; rintro e' w5 ⟨rfl, hb5⟩))
      have HGX := Lib.hid (HG4.out.below hb5)
      have HRX := Lib.hid (HX4.out.shown (Shown.below hb5) hb5.size)
      have HBX := Lib.hid (show RB w5 w.heap.size s (s.size - q.length) (-1) from BoxL.keep HR4.out hb5)
      have HBLX := Lib.hid (HBL4.out.trans (hb5.mono HBL4.out.size))
      have hk2 : w.heap.size + 1 ≤ w5.heap.size := by have := hb5.size; omega
      have hb6 : Box5 w5 E 33 (.int .i64 k9) (.int .i64 n9) (.int .i64 d9) (.string s9) (.slice o9 len9 cap9) := (hb5.block _ HB4.out.lt).trans HB4.out
      clear p0 p1 p2 p3 p4 pl hb5 u2 ul
      obtain ⟨p0, p1, p2, p3, p4⟩ := hb6.cells
      have pl := hb6.lt
      clear hb6
      go_wp2_with (first | (at_builtin; refine wpList_grow rfl (.tmp 51) (.tmp 53) rfl (w.heap.size + 1) (w.heap.size + 1) w1.heap.size _ l0 x _ _ _ _ _ rfl HGX.out HRX.out hk1 (fun g hg => HROW.out g hg) hl0 hk2 rfl ?_))
      intro g7 cap7 w3 hg3 ht3
      have hrow : ∀ q, (Value.slice o3 len3 cap3).ownBlock = some q → w.heap.size < q := fun q hq => (HG.out.block hq).1
      have HPB := Lib.hid (show RB w3 w.heap.size s (s.size - q.length) (-1) from ht3.box HBX.out (fun hq => by have := hrow _ hq; omega))
      have HBL3 := Lib.hid (HBLX.out.trans (ht3.below (fun q hq => by have := hrow q hq; omega) HBLX.out.size))
      have HG3 := Lib.hid hg3
      clear hg3 ht3 hrow
      go_wp2_with fail
      go_roundg (q.length + 1)
      case measure => omega
      case rel => exact Lib.hid ⟨l0 ++ [x], _, _, HPB.out, HG3.out, HBL3.out, .inl ⟨q, rfl, HQA.out, HA2.out, Nat.le_refl _, by rw [List.length_append, List.length_singleton]; omega⟩⟩
     | false =>
      have HRT := Lib.hid (hRt W4 (Below.refl _ _) false hri)
      have HA2 := Lib.hid (show Rd.A s.data.toList = .bad (c :: t) from by
       rw [hA, hAc]; simp only; rw [hri]; rfl)
      have HFL := Lib.hid (fun (W : World) (hW : RB W w.heap.size s (s.size - q.length) (-1)) => rfail_any w.heap.size s (s.size - q.length) (-1) (k : Int) W hW)
      clear hD hA hAc hgood hqk hRt hri
      go_upto_region 12 with (first | (go_at_call 22; refine HRT.out.mono ?_; rintro e' w5 ⟨rfl, hb5⟩))
      have HR5 := Lib.hid (show RB w5 w.heap.size s (s.size - q.length) (-1) from BoxL.keep HR4.out hb5)
      have HB5 := Lib.hid hb5
      go_upto_region 13 with (first | (go_at_call 43; refine (HFL.out _ HR5.out).mono ?_; rintro e' w6 ⟨rfl, hr6, ht6⟩))
      have HGX := Lib.hid ((HG4.out.below HB5.out).turned ht6 (fun q _ hq => by unfold Lo; omega))
      have HRX := Lib.hid ((HX4.out.shown (Shown.below HB5.out) HB5.out.size).shown (Shown.turned ht6 fun q _ hq => by unfold Lo; omega) ht6.size)
      have HBX := Lib.hid (show RB w6 w.heap.size s (s.size - q.length) (k : Int) from by rw [if_pos (by decide)] at hr6; exact hr6)
      have HBLX := Lib.hid ((HBL4.out.trans (HB5.out.mono HBL4.out.size)).trans (ht6.below (fun q hq => by omega) (Nat.le_trans HBL4.out.size HB5.out.size)))
      have hk2 : w.heap.size + 1 ≤ w6.heap.size := by have := HB5.out.size; have := ht6.size; omega
      have hb6 : Box5 w6 E 33 (.int .i64 k9) (.int .i64 n9) (.int .i64 d9) (.string s9) (.slice o9 len9 cap9) := (ht6.block _ (Nat.lt_of_lt_of_le HB4.out.lt HB5.out.size) (by omega)).trans ((HB5.out.block _ HB4.out.lt).trans HB4.out)
      clear p0 p1 p2 p3 p4 pl hb5 u2 ul hr6 ht6
      obtain ⟨p0, p1, p2, p3, p4⟩ := hb6.cells
      have pl := hb6.lt
      clear hb6
      go_wp2_with (first | (at_builtin; refine wpList_grow rfl (.tmp 51) (.tmp 53) rfl (w.heap.size + 1) (w.heap.size + 1) w1.heap.size _ l0 x _ _ _ _ _ rfl HGX.out HRX.out hk1 (fun g hg => HROW.out g hg) hl0 hk2 rfl ?_))
      intro g7 cap7 w3 hg3 ht3
      have hrow : ∀ q, (Value.slice o3 len3 cap3).ownBlock = some q → w.heap.size < q := fun q hq => (HG.out.block hq).1
      have HPB := Lib.hid (show RB w3 w.heap.size s (s.size - q.length) (k : Int) from ht3.box HBX.out (fun hq => by have := hrow _ hq; omega))
      have HBL3 := Lib.hid (HBLX.out.trans (ht3.below (fun q hq => by have := hrow q hq; omega) HBLX.out.size))
      have HG3 := Lib.hid hg3
      clear hg3 ht3 hrow
      go_wp2_with fail
      go_roundg 0
      case measure => omega
      case rel => exact Lib.hid ⟨l0 ++ [x], _, _, HPB.out, HG3.out, HBL3.out, .inr ⟨c :: t, by rw [← HK.out], HA2.out⟩⟩
  ·have hd1 : decide ((((s.size - q.length : Nat) : Int)) < 0) = false := by simp
   have HD2 := Lib.hid (readD_bad (q := q) hs hA)
   clear hA hrb
   go_wp2_with fail
   go_quiet (fail)
   go_wp2_with fail
   refine bodyPost_ret (v := .tuple #[.slice none 0 0, .int .i64 ((s.size - q.length : Nat) : Int), .int .i64 2]) (by simp [results, Tryz.results15, go_sem]) rfl ?_
   refine ⟨.slice none 0 0, by rw [HD2.out]; rfl, by rw [HD2.out]; exact repS_nil _ _, ⟨_, _, _, rfl⟩, Below.drewN HBL.out _⟩
theorem rdatum_ok : ∀ n, RDatOk n
 | 0 => fun _ _ _ _ _ _ h => by omega
 | n + 1 => fun b s a r w dp h hp hat hs => rdatum_step n (rdatum_ok n) (fun b s a r w p dp h hp hat hs => rdata_any n (rdatum_ok n) b s a r w p dp h hp hat hs) b s a r w dp h hp hat hs
theorem rread_any (s : ByteArray) (w : World) (hz : s.size ≤ 9223372036854775807) : Calls Tryz.prog 15 #[.string s] w (ReadPost s w) := by
 by_cases h : s.size ≤ 65536
 ·exact rread_short rdatum_ok s w h
 ·have hD : readD s = (none, 65536) := by unfold readD; rw [if_pos (by omega)]
  have HD2 := Lib.hid hD
  have hd0 : decide (65536 < (s.size : Int)) = true := by simp; omega
  clear hD h
  go_enter Tryz.func15, Tryz.ntmps15
  go_wp2_with fail
  refine bodyPost_ret (v := .tuple #[.slice none 0 0, .int .i64 65536, .int .i64 2]) (by simp [results, Tryz.results15, go_sem]) rfl ?_
  exact ⟨.slice none 0 0, by rw [HD2.out]; rfl, by rw [HD2.out]; exact repS_nil _ _, ⟨_, _, _, rfl⟩, Below.refl _ _⟩
end
section
open Go Go.RowKit
theorem readerReads_walk (s : ByteArray) (hz : s.size ≤ 140737488355328) (w : World) (hE : Env w) :
  Calls Tryz.prog 3 #[.string s] w fun e w' => e = .returned (.bool true) ∧ Below w.heap.size w w' := by
 have HAW := Lib.hid (awake3_any w hE)
 have R1 := fun W => read_any s W (by omega)
 have R2 := fun W => rread_any s W (by omega)
 obtain ⟨n, hn⟩ : ∃ n, deepN s.data.toList = n := ⟨_, rfl⟩
 have hdp := fun (h : s.size ≤ 65536) W => ldeep_any s h W
 rw [hn] at hdp
 have hns : n ≤ s.size := by rw [← hn]; exact deepN_le _
 have HDP := Lib.hid hdp
 clear hn hdp
 obtain ⟨p, hp⟩ : ∃ p : Nat, (readD s).2 = p := ⟨_, rfl⟩
 obtain ⟨er, her⟩ : ∃ er : Int, (if (readD s).1.isSome then 0 else 2 : Int) = er := ⟨_, rfl⟩
 unfold ReadPost at R1 R2
 rw [hp, her] at R1 R2
 have HR1 := Lib.hid R1
 have HR2 := Lib.hid R2
 clear R1 R2 hp her hE
 go_enter Tryz.func3, Tryz.ntmps3
 go_upto_region 2 with (first | (go_at_call 12; refine HAW.out.mono ?_; rintro e' w1 ⟨rfl, hb1⟩))
 have HB1 := Lib.hid hb1
 clear hb1
 have hvar : (decide ((s.size : Int) ≤ 65536) = true ∧ s.size ≤ 65536 ∧ decide (3000 < n) = true) ∨ (decide ((s.size : Int) ≤ 65536) = true ∧ s.size ≤ 65536 ∧ decide (3000 < n) = false) ∨ decide ((s.size : Int) ≤ 65536) = false := by
  by_cases h1 : s.size ≤ 65536
  ·have : decide ((s.size : Int) ≤ 65536) = true := by simp; omega
   by_cases h2 : 3000 < n
   ·exact .inl ⟨this, h1, by simpa using h2⟩
   ·exact .inr (.inl ⟨this, h1, by simpa using h2⟩)
  ·exact .inr (.inr (by simp; omega))
 rcases hvar with ⟨hd, hsz, hd2⟩ | ⟨hd, hsz, hd2⟩ | hd
 case inl =>
  have hd3 : decide (3000 < (n : Int)) = true := by simp at hd2 ⊢; omega
  go_wp2_with (first | (go_at_call 13; refine (HDP.out hsz _).mono ?_; rintro e' w2 ⟨rfl, rfl⟩))
  go_ret
  exact ⟨rfl, HB1.out⟩
 case' inr.inl =>
  have hd3 : decide (3000 < (n : Int)) = false := by simp at hd2 ⊢; omega
  go_upto_region 4 with (first | (go_at_call 13; refine (HDP.out hsz _).mono ?_; rintro e' w2 ⟨rfl, rfl⟩))
  clear hd3
 case' inr.inr =>
  go_upto_region 4 with fail
 all_goals
  go_upto_region 5 with (first | (go_at_call 14; refine (HR1.out _).mono ?_; rintro e' w3 ⟨v3, rfl, hr3, ⟨o3, len3, cap3, rfl⟩, hb3⟩))
  have HV3 := Lib.hid hr3
  have HB3 := Lib.hid hb3
  clear hr3 hb3
  go_upto_region 6 with (first | (go_at_call 15; refine (HR2.out _).mono ?_; rintro e' w4 ⟨v4, rfl, hr4, ⟨o4, len4, cap4, rfl⟩, hb4⟩))
  have HV4 := Lib.hid hr4
  have HS := Lib.hid (lsame_any _ _ _ w4.heap.size w4 ((HV3.out.kept hb4).wider hb4.size) hr4 (Nat.le_refl _))
  have HB4 := Lib.hid hb4
  clear hr4 hb4 hd
  go_wp2_with (first | (go_at_call 16; refine HS.out.mono ?_; rintro e' w5 ⟨rfl, hb5⟩; have HB5 := Lib.hid hb5; clear hb5))
  go_ret
  exact ⟨rfl, Below.next (Below.next (Below.next HB1.out HB3.out) HB4.out) HB5.out⟩
end
end Go.Proofs.YtpcneeekmhdhgaaGreatDoor

/-
  What the proofs lean on: RdL2, RdL1, RdL3, RdL7.
-/
import Derived.Test.YtpcneeekmhdhgaaGreatDoorRdzA05
import Derived.Test.YtpcneeekmhdhgaaGreatDoorRdzA08
import Derived.Test.YtpcneeekmhdhgaaGreatDoorRdzA09
import Derived.Test.YtpcneeekmhdhgaaGreatDoorRdzA11
set_option maxRecDepth 100000
set_option maxHeartbeats 16000000
namespace Go.Proofs.YtpcneeekmhdhgaaGreatDoor
section
open Go Go.RowKit
theorem awake3_any (w : World) (hE : Env w) : Calls Tryz.prog 12 #[] w fun e w' => e = .returned (.bool true) ∧ Below w.heap.size w w' := by
 have HE := Lib.hid hE
 clear hE
 go_enter Tryz.func12, Tryz.ntmps12
 go_upto_region 2 with (first | (go_at_call 14; refine (read_ex1 _).mono ?_; rintro e' w1 ⟨b, off, cap, k1, n1, d1, s1, o1, l1, c1, k2, n2, d2, s2, o2, l2, c2, rfl, hb1, hlt, hr1, hr2, e1, e2⟩))
 have HB1 := Lib.hid hb1
 have HR1 := Lib.hid hr1
 have HR2 := Lib.hid hr2
 have HE1 := Lib.hid e1
 have HE2 := Lib.hid e2
 clear hb1 hr1 hr2 e1 e2
 go_upto_region 3 with (first | (go_at_call 14; refine (read_ex2 _).mono ?_; rintro e' w2 ⟨v2, rfl, hb2⟩))
 have key : ∀ W, Below w1.heap.size w1 W → (W.cell? ⟨b, off, none⟩ = some (.int .i64 k1) ∧ W.cell? ⟨b, off + 1, none⟩ = some (.int .i64 n1) ∧ W.cell? ⟨b, off + 2, none⟩ = some (.int .i64 d1) ∧ W.cell? ⟨b, off + 3, none⟩ = some (.string s1) ∧ W.cell? ⟨b, off + 4, none⟩ = some (.slice o1 l1 c1)) ∧
  (W.cell? ⟨b, off + 5, none⟩ = some (.int .i64 k2) ∧ W.cell? ⟨b, off + 6, none⟩ = some (.int .i64 n2) ∧ W.cell? ⟨b, off + 7, none⟩ = some (.int .i64 d2) ∧ W.cell? ⟨b, off + 8, none⟩ = some (.string s2) ∧ W.cell? ⟨b, off + 9, none⟩ = some (.slice o2 l2 c2)) := fun W hW => by
  have g : ∀ i, W.cell? ⟨b, i, none⟩ = w1.cell? ⟨b, i, none⟩ := fun i => hW.cell (p := ⟨b, i, none⟩) hlt
  simp only [g]
  exact ⟨HE1.out, HE2.out⟩
 have HKEY := Lib.hid key
 have t1 : ∀ W, Below w1.heap.size w1 W → Calls Tryz.prog 18 #[.agg #[.int .i64 k1, .int .i64 n1, .int .i64 d1, .string s1, .slice o1 l1 c1]] W fun e w' => e = .returned (.string ⟨#[40, 97, 32, 113, 117, 111, 116, 101, 32, 98, 41]⟩) ∧ Below W.heap.size W w' := fun W hW => by
  refine (dtext_any Rd.ex1 _ w1.heap.size W (HR1.out.kept hW) hW.size (env_kept (env_kept HE.out HB1.out) hW) (fun _ => Rd.len_ex1)).mono fun e w' h => ⟨?_, h.2⟩
  rw [h.1, Rd.full_ex1]
 have t2 : ∀ W, Below w1.heap.size w1 W → Calls Tryz.prog 18 #[.agg #[.int .i64 k2, .int .i64 n2, .int .i64 d2, .string s2, .slice o2 l2 c2]] W fun e w' => e = .returned (.string ⟨#[35, 40, 49, 41]⟩) ∧ Below W.heap.size W w' := fun W hW => by
  refine (dtext_any Rd.ex2 _ w1.heap.size W (HR2.out.kept hW) hW.size (env_kept (env_kept HE.out HB1.out) hW) (fun _ => Rd.len_ex2)).mono fun e w' h => ⟨?_, h.2⟩
  rw [h.1, Rd.full_ex2]
 have HT1 := Lib.hid t1
 have HT2 := Lib.hid t2
 obtain ⟨⟨g0, g1, g2, g3, g4⟩, _⟩ := HKEY.out _ hb2
 have HB2 := Lib.hid hb2
 clear key t1 t2 hb2
 go_wp2_with (first | (go_at_call 18; (with_reducible refine (HT1.out _ HB2.out).mono ?_); rintro e' w3 ⟨rfl, hb3⟩; have hb3' := Below.next HB2.out hb3; clear g0 g1 g2 g3 g4 hb3; obtain ⟨_, ⟨j0, j1, j2, j3, j4⟩⟩ := HKEY.out _ hb3'; have HB3 := Lib.hid hb3'; clear hb3') | (go_at_call 18; (with_reducible refine (HT2.out _ HB3.out).mono ?_); rintro e' w4 ⟨rfl, hb4⟩; have HB4 := Lib.hid (Below.next HB3.out hb4); clear hb4))
 go_ret
 exact ⟨rfl, Below.next HB1.out HB4.out⟩
end
section
open Go Go.RowKit
theorem lsame_any (l : List Dat) (v u : Value) (B : Nat) (w : World) (hv : RepS w B l v) (hu : RepS w B l u) (hB : B ≤ w.heap.size) :
  Calls Tryz.prog 16 #[v, u] w fun e w' => e = .returned (.bool true) ∧ Below w.heap.size w w' := by
 obtain ⟨o1, len1, cap1, rfl, hl1, hcp1, hm1, hr1⟩ := hv
 obtain ⟨o2, len2, cap2, rfl, hl2, hcp2, hm2, hr2⟩ := hu
 obtain rfl : len2 = len1 := by omega
 have HC1 := Lib.hid hr1
 have HC2 := Lib.hid hr2
 have HL1 := Lib.hid hl1
 clear hr1 hr2 hl1 hl2
 have HBase := Lib.hid (Below.refl w.heap.size w)
 go_enter Tryz.func16, Tryz.ntmps16
 go_wp2_with fail
 go_loopg [5] len2 (fun g i wr => ∃ j : Nat, g = len2 - j ∧ j ≤ len2 ∧ i = .int .i64 j ∧ Below w.heap.size w wr)
 case atStart => exact ⟨0, rfl, by omega, rfl, HBase.out⟩
 case round =>
  obtain ⟨j, rfl, hj, rfl, hb⟩ := hrel
  have hsz := hb.size
  have HB := Lib.hid hb
  clear hb
  by_cases hjl : j < len2
  ·obtain ⟨y, hy⟩ : ∃ y, l[j]? = some y := ⟨_, List.getElem?_eq_getElem (by rw [← HL1.out]; exact hjl)⟩
   obtain ⟨b1, off1, k1, n1, d1, s1, l1, oo1, ln1, cp1, ho1, hx1, e0, e1, e2, e3, e4, er⟩ := part_at2 HC1.out (Below.mono HB.out hB) hy
   obtain ⟨b2, off2, k2, n2, d2, s2, l2, oo2, ln2, cp2, ho2, hx2, f0, f1, f2, f3, f4, fr⟩ := part_at2 HC2.out (Below.mono HB.out hB) hy
   subst ho1 ho2
   have ER := Lib.hid er
   have FR := Lib.hid fr
   have HX1 := Lib.hid hx1
   have HX2 := Lib.hid hx2
   have hl1 := cell_lt e0
   have hl2 := cell_lt f0
   have HD := Lib.hid ((Below.refl wr.heap.size wr).drew)
   clear hy er fr hx1 hx2
   go_wp2_with fail
   refine wp_region_quiet_class (Below wr.heap.size wr) 9 (by kernel_rfl) (by kernel_rfl) HD.out ?_
   intro T _ W HW HW2
   have g0 : ∀ t, (W t).cell? _ = _ := fun t => ((HW t).cell (p := ⟨b1, off1 + j * 5, none⟩) hl1).trans e0
   have g1 : ∀ t, (W t).cell? _ = _ := fun t => ((HW t).cell (p := ⟨b1, off1 + j * 5 + 1, none⟩) hl1).trans e1
   have g2 : ∀ t, (W t).cell? _ = _ := fun t => ((HW t).cell (p := ⟨b1, off1 + j * 5 + 2, none⟩) hl1).trans e2
   have g3 : ∀ t, (W t).cell? _ = _ := fun t => ((HW t).cell (p := ⟨b1, off1 + j * 5 + 3, none⟩) hl1).trans e3
   have g4 : ∀ t, (W t).cell? _ = _ := fun t => ((HW t).cell (p := ⟨b1, off1 + j * 5 + 4, none⟩) hl1).trans e4
   have j0 : ∀ t, (W t).cell? _ = _ := fun t => ((HW t).cell (p := ⟨b2, off2 + j * 5, none⟩) hl2).trans f0
   have j1 : ∀ t, (W t).cell? _ = _ := fun t => ((HW t).cell (p := ⟨b2, off2 + j * 5 + 1, none⟩) hl2).trans f1
   have j2 : ∀ t, (W t).cell? _ = _ := fun t => ((HW t).cell (p := ⟨b2, off2 + j * 5 + 2, none⟩) hl2).trans f2
   have j3 : ∀ t, (W t).cell? _ = _ := fun t => ((HW t).cell (p := ⟨b2, off2 + j * 5 + 3, none⟩) hl2).trans f3
   have j4 : ∀ t, (W t).cell? _ = _ := fun t => ((HW t).cell (p := ⟨b2, off2 + j * 5 + 4, none⟩) hl2).trans f4
   have hC : ∀ t, Calls Tryz.prog 29 #[.agg #[.int .i64 k1, .int .i64 n1, .int .i64 d1, .string s1, .slice oo1 ln1 cp1], .agg #[.int .i64 k2, .int .i64 n2, .int .i64 d2, .string s2, .slice oo2 ln2 cp2]] (W t) fun e w' => e = .returned (.bool true) ∧ ∃ t', w' = W t' := fun t =>
    (ralike_to y y _ _ B (W t) true (Dat.alike_self y) (by rw [HX1.out]; exact ER.out.kept (Below.mono (HW t) (Nat.le_trans hB hsz))) (by rw [HX2.out]; exact FR.out.kept (Below.mono (HW t) (Nat.le_trans hB hsz))) (Nat.le_trans (Nat.le_trans hB hsz) (HW t).size)).mono fun e w' h => ⟨h.1, HW2 _ (Below.next (HW t) h.2)⟩
   have HC := Lib.hid hC
   clear hC
   have HWH := Lib.hid HW
   clear HW HW2
   simp only [List.take_succ_cons, List.take_zero, List.drop_succ_cons, List.drop_zero]
   repeat (go_big_quiet_step (first | (go_at_call 29; exact HC.out _) | fail))
   refine wpQuiet_nil ?_
   intro t
   go_wp2_with fail
   go_roundg (len2 - (j + 1))
   case measure => omega
   case rel => exact ⟨j + 1, rfl, by omega, by go_num, Below.next HB.out (HWH.out t)⟩
  ·go_wp2_with fail
   go_ret
   exact ⟨rfl, HB.out⟩
end
section
open Go Go.RowKit
def deepB (c : UInt8) : Bool := c == 40 || c == 39
def deepN (l : List UInt8) : Nat := (l.filter deepB).length
theorem deepN_snoc (l : List UInt8) (c : UInt8) : deepN (l ++ [c]) = deepN l + (if deepB c then 1 else 0) := by
 unfold deepN
 rw [List.filter_append, List.length_append]
 cases h : deepB c <;> simp [h]
theorem deepN_le (l : List UInt8) : deepN l ≤ l.length := List.length_filter_le _ _
theorem deepN_next {s : ByteArray} {i : Nat} (h : i < s.size) {c : UInt8} (hc : s[i] = c) : deepN (s.data.toList.take (i + 1)) = deepN (s.data.toList.take i) + (if deepB c then 1 else 0) := by
 have hl : i < s.data.toList.length := h
 rw [← List.take_append_getElem hl, deepN_snoc]
 rw [show s.data.toList[i] = c from hc]
theorem ldeep_any (s : ByteArray) (hs : s.size ≤ 65536) (w : World) : Calls Tryz.prog 13 #[.string s] w fun e w' => e = .returned (.int .i64 (deepN s.data.toList)) ∧ w' = w := by
 go_enter Tryz.func13, Tryz.ntmps13
 go_wp2_with fail
 go_loopg [3, 4] s.size (fun g nv iv wr => ∃ (n i : Nat), nv = .int .i64 n ∧ iv = .int .i64 i ∧ g = s.size - i ∧ i ≤ s.size ∧ n ≤ i ∧ Hid (n = deepN (s.data.toList.take i)) ∧ w = wr)
 case atStart => exact ⟨0, 0, rfl, rfl, by omega, by omega, by omega, Lib.hid rfl, rfl⟩
 case round =>
  obtain ⟨n, i, rfl, rfl, rfl, hi, hni, HN, rfl⟩ := hrel
  by_cases hlt : i < s.size
  ·obtain ⟨c, hc⟩ : ∃ c, s[i] = c := ⟨_, rfl⟩
   have HX := Lib.hid (deepN_next hlt hc)
   have hd : decide ((i : Int) < (s.size : Int)) = true := by simp; omega
   have q40 : ((c.toNat : Int) == 40) = decide (c = 40) := u8_eq c 40
   have q39 : ((c.toNat : Int) == 39) = decide (c = 39) := u8_eq c 39
   have a1 : ((i : Int) + 1) = ((i + 1 : Nat) : Int) := by omega
   have a2 : ((n : Int) + 1) = ((n + 1 : Nat) : Int) := by omega
   have HA1 := Lib.hid a1
   have HA2 := Lib.hid a2
   clear a1 a2
   by_cases h40 : c = 40
   ·rw [decide_eq_true h40] at q40
    have HB := Lib.hid (show deepB c = true from by rw [h40]; rfl)
    clear h40 q39
    go_wp2_with fail
    rw [HA1.out, HA2.out]
    go_roundg (s.size - (i + 1))
    case measure => omega
    case rel => exact ⟨n + 1, i + 1, rfl, rfl, rfl, by omega, by omega, Lib.hid (by rw [HX.out, HN.out, HB.out]; rfl), rfl⟩
   ·rw [decide_eq_false h40] at q40
    by_cases h39 : c = 39
    ·rw [decide_eq_true h39] at q39
     have HB := Lib.hid (show deepB c = true from by rw [h39]; rfl)
     clear h39 h40
     go_wp2_with fail
     rw [HA1.out, HA2.out]
     go_roundg (s.size - (i + 1))
     case measure => omega
     case rel => exact ⟨n + 1, i + 1, rfl, rfl, rfl, by omega, by omega, Lib.hid (by rw [HX.out, HN.out, HB.out]; rfl), rfl⟩
    ·rw [decide_eq_false h39] at q39
     have HB := Lib.hid (show deepB c = false from by simp [deepB, h39, h40])
     clear h39 h40
     go_wp2_with fail
     rw [HA1.out]
     go_roundg (s.size - (i + 1))
     case measure => omega
     case rel => exact ⟨n, i + 1, rfl, rfl, rfl, by omega, by omega, Lib.hid (by rw [HX.out, HN.out, HB.out]; rfl), rfl⟩
  ·have hd : decide ((i : Int) < (s.size : Int)) = false := by simp; omega
   have HI := Lib.hid (show s.data.toList.take i = s.data.toList from List.take_of_length_le (by show s.size ≤ i; omega))
   go_wp2_with fail
   go_ret
   exact ⟨by rw [HN.out, HI.out]; rfl, rfl⟩
end
section
open Go Go.RowKit
def ReadOne (x : Dat) (p : Nat) (w : World) (e : Ending) (w' : World) : Prop :=
 ∃ (b off cap : Nat) (k n d : Int) (st : ByteArray) (l' : List Dat) (o : Option Addr) (len c : Nat), x = .mk k n d st l' ∧ e = .returned (.tuple #[.slice (some ⟨b, off, none⟩) 1 cap, .int .i64 p, .int .i64 0]) ∧ Below w.heap.size w w' ∧ b < w'.heap.size ∧
  RepD w' w'.heap.size x (.agg #[.int .i64 k, .int .i64 n, .int .i64 d, .string st, .slice o len c]) ∧
  (w'.cell? ⟨b, off, none⟩ = some (.int .i64 k) ∧ w'.cell? ⟨b, off + 1, none⟩ = some (.int .i64 n) ∧ w'.cell? ⟨b, off + 2, none⟩ = some (.int .i64 d) ∧ w'.cell? ⟨b, off + 3, none⟩ = some (.string st) ∧ w'.cell? ⟨b, off + 4, none⟩ = some (.slice o len c))
theorem read_one {s : ByteArray} {x : Dat} {p : Nat} (h : readD s = (some [x], p)) (hz : s.size ≤ 9223372036854775807) (w : World) : Calls Tryz.prog 14 #[.string s] w (ReadOne x p w) := by
 refine (read_ok h hz w).mono ?_
 rintro e w' ⟨o, len, cap, rfl, hr, hb⟩
 obtain ⟨o5, len5, cap5, he5, hl5, hc5, hm5, hm6⟩ := hr
 simp only [Value.slice.injEq] at he5
 obtain ⟨rfl, rfl, rfl⟩ := he5
 obtain ⟨bb, off, k1, n1, d1, s1, m1, o1, l1, c1, ho, hx1, e0, e1, e2, e3, e4, er⟩ := part_at2 hm6 (Below.refl _ w') (j := 0) rfl
 subst ho
 have hl2 : len = 1 := hl5
 subst hl2
 exact ⟨bb, off, cap, k1, n1, d1, s1, m1, o1, l1, c1, hx1, rfl, hb, cell_lt e0, hx1 ▸ er, ⟨by simpa using e0, by simpa using e1, by simpa using e2, by simpa using e3, by simpa using e4⟩⟩
theorem name_short {s : List UInt8} (h : Dat.name s = true) : s.length ≤ 40 := by
 simp only [Dat.name, Bool.and_eq_true, decide_eq_true_eq] at h
 omega
theorem quoted_full {n d : Int} (h : Num.right n d = true) : Dat.full (Rd.quoted (.mk 0 n d Dat.emptyB [])) = [40, 113, 117, 111, 116, 101, 32] ++ (Num.text n d ++ [41]) := by
 have hq := Rd.A_quoted h
 have hr : Dat.right (Rd.quoted (.mk 0 n d Dat.emptyB [])) 0 = true := by
  apply Rd.right_quoted
  simp [Dat.right, Dat.head, h, Dat.rightL]
  rfl
 rw [Dat.full, if_pos hr]
 exact hq.2
theorem readerNumbers_walk (n d : Int) (s : ByteArray) (h0 : -9223372036854775808 ≤ n) (h1 : n ≤ 9223372036854775807) (h2 : -9223372036854775808 ≤ d) (h3 : d ≤ 9223372036854775807) (hz : s.size ≤ 140737488351232) (w : World) (hE : Env w) :
  Calls Tryz.prog 5 #[.int .i64 n, .int .i64 d, .string s] w fun e w' => e = .returned (.bool true) ∧ Below w.heap.size w w' := by
 have HAW := Lib.hid (awake3_any w hE)
 have HE := Lib.hid hE
 have hT := fun W => rtext_any n d h0 h1 h2 h3 W
 obtain ⟨T, hTT⟩ : ∃ T, Num.text n d = T := ⟨_, rfl⟩
 rw [hTT] at hT
 have HTX := Lib.hid hT
 have HNM := Lib.hid (fun W => name_any s hz W)
 clear hE hT
 go_enter Tryz.func5, Tryz.ntmps5
 go_upto_region 2 with (first | (go_at_call 12; refine HAW.out.mono ?_; rintro e' w1 ⟨rfl, hb1⟩))
 have HB1 := Lib.hid hb1
 clear hb1
 go_upto_region 3 with (first | (go_at_call 17; refine (HTX.out _).mono ?_; rintro e' w2 ⟨rfl, hb2⟩))
 have HB2 := Lib.hid (Below.next HB1.out hb2)
 clear hb2
 cases hr : Num.right n d
 case' false =>
  have hT0 : T = [] := by rw [← hTT]; unfold Num.text; rw [hr]; rfl
  subst hT0
  have HBF := HB2
  clear hr hTT
  go_upto_region 8 with fail
 case' true =>
  have hne : T ≠ [] := by rw [← hTT]; exact (Dat.text_name hr).2
  have hA1 := Rd.A_num hr
  have hA2 := Rd.A_quoted hr
  have hF := quoted_full hr
  have hTl : T.length ≤ 43 := by rw [← hTT]; exact Dat.num_text_len n d
  rw [hTT] at hA1 hA2 hF
  have hTs : (⟨T.toArray⟩ : ByteArray).size ≤ 43 := by simpa [ByteArray.size] using hTl
  have hTq : ((⟨#[39]⟩ : ByteArray) ++ ⟨T.toArray⟩) = ⟨(39 :: T).toArray⟩ := by apply ByteArray.ext; simp
  have HR1 := Lib.hid (fun W => read_one (s := ⟨T.toArray⟩) (readD_ok (by omega) (by simpa using hA1)) (by omega) W)
  have hqs : (⟨(39 :: T).toArray⟩ : ByteArray).size ≤ 44 := by simpa [ByteArray.size] using hTl
  have hR2 := fun W => read_one (s := ⟨(39 :: T).toArray⟩) (readD_ok (by omega) (by simpa using hA2.1)) (by omega) W
  rw [← hTq] at hR2
  have HR2 := Lib.hid hR2
  have hTe : (T == []) = false := by simpa using hne
  clear hTq hR2 hqs hne
  go_upto_region 4 with fail
  go_upto_region 5 with (first | (go_at_call 14; refine (HR1.out _).mono ?_; rintro e' w3 ⟨b3, off3, cap3, k3, n3, d3, s3, l3, o3, len3, c3, hx3, rfl, hb3, hl3, hr3, hc3⟩))
  simp only [Dat.mk.injEq] at hx3
  obtain ⟨rfl, rfl, rfl, rfl, rfl⟩ := hx3
  have HB3 := Lib.hid (Below.next HB2.out hb3)
  have HC3 := Lib.hid hc3
  clear hb3 hr3 hc3
  go_upto_region 6 with (first | (go_at_call 14; refine (HR2.out _).mono ?_; rintro e' w4 ⟨b4, off4, cap4, k4, n4, d4, s4, l4, o4, len4, c4, hx4, rfl, hb4, hl4, hr4, hc4⟩))
  have hcell : ∀ i, w4.cell? ⟨b3, i, none⟩ = w3.cell? ⟨b3, i, none⟩ := fun i => hb4.cell (p := ⟨b3, i, none⟩) hl3
  have hc5 := HC3.out
  rw [← hcell, ← hcell, ← hcell, ← hcell, ← hcell] at hc5
  obtain ⟨j0, j1, j2, j3, j4⟩ := hc5
  obtain ⟨g0, g1, g2, g3, g4⟩ := hc4
  have hl3' : b3 < w4.heap.size := Nat.lt_of_lt_of_le hl3 hb4.size
  have HB4 := Lib.hid (Below.next HB3.out hb4)
  have t4 : Calls Tryz.prog 18 #[.agg #[.int .i64 k4, .int .i64 n4, .int .i64 d4, .string s4, .slice o4 len4 c4]] w4 fun e w' => e = .returned (.string ((⟨#[40, 113, 117, 111, 116, 101, 32]⟩ ++ ⟨T.toArray⟩) ++ ⟨#[41]⟩)) ∧ Below w4.heap.size w4 w' := by
   refine (dtext_any _ _ w4.heap.size w4 hr4 (Nat.le_refl _) (env_kept HE.out HB4.out) (fun _ => by rw [hA2.2]; simp only [List.length_append, List.length_cons, List.length_nil]; omega)).mono fun e w' h => ⟨?_, h.2⟩
   rw [h.1, hF]
   congr 2
   first
    | done
    | (apply ByteArray.ext; done)
    | (apply ByteArray.ext; simp)
  have HT4 := Lib.hid t4
  clear hb4 hr4 t4 hcell hx4 hA1 hA2 hF hTT hr HC3
  go_upto_region 8 with (first | (go_at_call 18; refine HT4.out.mono ?_; rintro e' w5 ⟨rfl, hb5⟩))
  have HBF := Lib.hid (Below.next HB4.out hb5)
  clear hb5
 all_goals
  go_wp2_with fail
  go_loopg [15] s.size (fun g iv wr => ∃ (i : Nat), iv = .int .i64 i ∧ g = s.size - i ∧ i ≤ s.size ∧ Hid ((s.data.toList.take i).contains 37 = false) ∧ Hid (Below w.heap.size w wr))
  case atStart => exact ⟨0, rfl, rfl, by omega, Lib.hid rfl, HBF⟩
  case round =>
   obtain ⟨i, rfl, rfl, hi, HC, HB⟩ := hrel
   by_cases hlt : i < s.size
   ·have hd : decide ((i : Int) < (s.size : Int)) = true := by simp; omega
    obtain ⟨c, hcc⟩ : ∃ c, s[i] = c := ⟨_, rfl⟩
    have q37 : ((c.toNat : Int) == 37) = decide (c = 37) := u8_eq c 37
    have HX := Lib.hid (contains_take hlt hcc 37)
    by_cases h37 : c = 37
    ·rw [decide_eq_true h37] at q37
     clear h37
     go_wp2_with fail
     go_ret
     exact ⟨rfl, HB.out⟩
    ·rw [decide_eq_false h37] at q37
     have HC2 := Lib.hid (show (s.data.toList.take (i + 1)).contains 37 = false from by rw [HX.out, HC.out]; simpa using fun e => h37 e.symm)
     clear h37
     go_wp2_with fail
     go_roundg (s.size - (i + 1))
     case measure => omega
     case rel => exact ⟨i + 1, by go_num, rfl, by omega, HC2, HB⟩
   ·have hd : decide ((i : Int) < (s.size : Int)) = false := by simp; omega
    have hc37 : s.data.toList.contains 37 = false := by
     have := HC.out
     rwa [List.take_of_length_le (by show s.size ≤ i; omega)] at this
    cases hnm : Dat.name s.data.toList with
    | false =>
     have HN := Lib.hid (show ∀ W, Calls Tryz.prog 19 #[.string s] W fun e w' => e = .returned (.bool false) ∧ Below W.heap.size W w' from fun W => by have := HNM.out W; rw [hnm] at this; exact this)
     clear hnm hc37
     go_wp2_with (first | (go_at_call 19; refine (HN.out _).mono ?_; rintro e' w7 ⟨rfl, hb7⟩))
     go_ret
     exact ⟨rfl, Below.next HB.out hb7⟩
    | true =>
     have HN := Lib.hid (show ∀ W, Calls Tryz.prog 19 #[.string s] W fun e w' => e = .returned (.bool true) ∧ Below W.heap.size W w' from fun W => by have := HNM.out W; rw [hnm] at this; exact this)
     have hss : s.size ≤ 40 := name_short hnm
     have HR3 := Lib.hid (fun W => read_one (readD_ok (by omega) (Rd.A_name hnm hc37)) (by omega) W)
     clear hnm hc37
     go_upto_region 15 with (first | (go_at_call 19; refine (HN.out _).mono ?_; rintro e' w7 ⟨rfl, hb7⟩))
     have HB7 := Lib.hid (Below.next HB.out hb7)
     clear hb7
     go_upto_region 16 with (first | (go_at_call 14; refine (HR3.out _).mono ?_; rintro e' w8 ⟨b8, off8, cap8, k8, n8, d8, s8, l8, o8, len8, c8, hx8, rfl, hb8, hl8, hr8, ⟨g0, g1, g2, g3, g4⟩⟩))
     simp only [Dat.mk.injEq] at hx8
     obtain ⟨rfl, rfl, rfl, rfl, rfl⟩ := hx8
     have HB8 := Lib.hid (Below.next HB7.out hb8)
     clear hb8 hr8
     go_wp2_with fail
     go_ret
     exact ⟨rfl, HB8.out⟩
end
end Go.Proofs.YtpcneeekmhdhgaaGreatDoor

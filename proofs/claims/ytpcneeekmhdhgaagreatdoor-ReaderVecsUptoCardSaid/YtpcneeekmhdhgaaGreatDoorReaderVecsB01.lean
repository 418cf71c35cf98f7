/-
  What the proofs lean on: BulkS, RdL8.
-/
import Derived.Test.YtpcneeekmhdhgaaGreatDoorRdzA05
import Derived.Test.YtpcneeekmhdhgaaGreatDoorRdzA12
set_option maxRecDepth 100000
set_option maxHeartbeats 16000000
namespace Go.Proofs.YtpcneeekmhdhgaaGreatDoor
section
open Go.ChangeShapes Go.WideShapes Go.ChangeAt Go.RowKit
section
variable {H : Type} {enc : TypeId × Value → H}
theorem repS_of_trodB {w : World} (fuel : Nat) (c4 : Value) (x4 : DataW H × List MemPlace) (g4 : DataW.trod enc Tryz.prog w 0 (fun _ => true) true fuel 24 [c4] = some x4) (w4 : ∀ n ∈ x4.1.weights Tryz.prog 24, n ≤ reachBytes) : ∃ l, RepS w w.heap.size l c4 ∧ Dat.bulkL l ≤ Rows.uptoBulk x4.1 := by
 rcases DataW.trod_slice Tryz.underlying24 g4 with ⟨e4, _⟩ | ⟨a, len, cap, elems, rest, n', rfl, e4, hx4, _, hle, _, hel, hget4, hsp, _⟩
 ·have f4 : c4 = .slice none 0 0 := by simpa using e4
  subst f4
  exact ⟨[], ⟨none, 0, 0, rfl, rfl, by omega, by omega, rfl, rfl⟩, Nat.zero_le _⟩
 ·have f4 : c4 = .slice (some a) len cap := by simpa using e4
  subst f4 hx4
  have hrest := (hsp rfl).1
  have hcap : cap ≤ 9223372036854775807 := by
   have := w4 ((elems.length + rest.length) * 64) (by simp [DataW.weights, Tryz.underlying24, bytes_datum])
   have h9 : (elems.length + rest.length) * 64 ≤ 140737488351232 := this
   omega
  by_cases h0 : len = 0
  ·subst h0
   exact ⟨[], ⟨some a, 0, cap, rfl, rfl, by omega, hcap, fun h => absurd rfl h, by rw [RepC]; trivial⟩, Nat.zero_le _⟩
  have hat : ∀ i (hi : i < len), ∃ cs', w.cells? 0 (a.add (i * 5)) 5 = some cs' ∧ DataW.trod enc Tryz.prog w 0 (fun _ => true) true n' 33 cs' = some (elems[i]'(by omega)) := by
   intro i hi
   have hb := hget4 i hi
   rw [cells_datum, List.getElem?_eq_getElem (by omega)] at hb
   exact Option.bind_eq_some_iff.1 hb
  obtain ⟨hspot, hblk⟩ : a.spot = none ∧ a.block < w.heap.size := by
   obtain ⟨cs', hc1, _⟩ := hat 0 (by omega)
   obtain ⟨_, hl5, hcs⟩ := World.cells?_some hc1
   have h00 := hcs 0 (by omega)
   rw [List.getElem?_eq_getElem (by omega)] at h00
   have := cell_spot h00
   simpa [Addr.add] using this
  have hcell : ∀ i (hi : i < (elems.map Prod.fst).length), ∃ x c0 c1 c2 c3 c4, w.cell? ⟨a.block, a.off + i * 5, none⟩ = some c0 ∧ w.cell? ⟨a.block, a.off + i * 5 + 1, none⟩ = some c1 ∧ w.cell? ⟨a.block, a.off + i * 5 + 2, none⟩ = some c2 ∧ w.cell? ⟨a.block, a.off + i * 5 + 3, none⟩ = some c3 ∧ w.cell? ⟨a.block, a.off + i * 5 + 4, none⟩ = some c4 ∧ RepD w w.heap.size x (.agg #[c0, c1, c2, c3, c4]) ∧ Dat.bulk x ≤ Rows.uptoBulk (elems.map Prod.fst)[i] := by
   intro i hi'
   have hi : i < len := by simpa [hel] using hi'
   obtain ⟨cs', hc1, hc2⟩ := hat i hi
   obtain ⟨_, hl5, hcs⟩ := World.cells?_some hc1
   rw [add_none hspot] at hcs
   have hcs2 : ∀ j, j < 5 → w.cell? ⟨a.block, a.off + i * 5 + j, none⟩ = cs'[j]? := by
    intro j hj
    have := hcs j hj
    rw [add_none rfl] at this
    exact this
   match cs', hl5 with
   | [a0, a1, a2, a3, a4], _ =>
    obtain ⟨x, hx, hxb⟩ := rep_of_trodB n' _ _ hc2 (fun q hq => w4 q (by
     simp only [DataW.weights, Tryz.underlying24, List.mem_cons, List.mem_append]
     refine Or.inr (Or.inl (weightsAll_mem (d := (elems[i]'(by omega)).1) ?_ q hq))
     exact List.mem_map_of_mem (List.getElem_mem _)))
    exact ⟨x, a0, a1, a2, a3, a4, hcs2 0 (by omega), hcs2 1 (by omega), hcs2 2 (by omega), hcs2 3 (by omega), hcs2 4 (by omega), hx, by simpa using hxb⟩
  obtain ⟨l, hl, hr, hlb⟩ := repC_buildB (elems.map Prod.fst) a.off hcell
  exact ⟨l, ⟨some a, len, cap, rfl, by rw [hl]; simp [hel], hle, hcap, fun _ => ⟨hspot, hblk⟩, hr⟩, Nat.le_trans hlb (by show Rows.uptoBulkAll (elems.map fun x => x.1) ≤ _; simp only [Rows.uptoBulk]; omega)⟩
theorem open_dataB {W : World} {r : Reach} {b0 : Nat} {v : Value} {d : DataW H} {ps : List MemPlace} (hval : Value.okWide Tryz.prog W r b0 24 v) (hd : DataW.Trod enc Tryz.prog W 0 (fun _ => true) true 24 v d ps) (hw : ∀ n ∈ d.weights Tryz.prog 24, n ≤ reachBytes) : ∃ l, RepS W W.heap.size l v ∧ Dat.bulkL l ≤ Rows.uptoBulk d := by
 obtain ⟨a0, len, cap, rfl⟩ := okWide_slice Tryz.underlying24 hval
 obtain ⟨fuel, hf⟩ := hd
 exact repS_of_trodB fuel _ (d, ps) (by simpa [Value.cells] using hf) hw
end
theorem bulk_mem {l : List Dat} {x : Dat} (h : x ∈ l) : Dat.bulk x ≤ Dat.bulkL l := by
 induction l with
 | nil => cases h
 | cons y l ih =>
  simp only [Dat.bulkL]
  rcases List.mem_cons.1 h with rfl | h
  ·omega
  ·have := ih h; omega
end
section
open Go Go.RowKit
theorem cat3_bytes (a b c : ByteArray) : (a ++ b ++ c).data.toList = a.data.toList ++ (b.data.toList ++ c.data.toList) := by simp
theorem cat3_size (a b c : ByteArray) : (a ++ b ++ c).size = a.size + b.size + c.size := by rw [ByteArray.size_append, ByteArray.size_append]
theorem read_gen (s : ByteArray) (hz : s.size ≤ 9223372036854775807) : ∃ (p : Nat) (er : Int), ∀ W, Calls Tryz.prog 14 #[.string s] W fun e w' => (∃ v, e = .returned (.tuple #[v, .int .i64 p, .int .i64 er])) ∧ Below W.heap.size W w' :=
 ⟨_, _, fun W => (read_any s W hz).mono fun _e _w' ⟨v, h, _, _, hb⟩ => ⟨⟨v, h⟩, hb⟩⟩
theorem texts_snoc (l : List Dat) (x : Dat) : Rd.texts (l ++ [x]) = Rd.texts l ++ (Dat.text x false ++ [32]) := by
 induction l with
 | nil => simp [Rd.texts]
 | cons y l ih => simp [Rd.texts, ih]
theorem full_ne {x : Dat} (h : Dat.full x ≠ []) : Dat.right x 0 = true ∧ Dat.full x = Dat.text x false := by
 unfold Dat.full at h ⊢
 cases hr : Dat.right x 0 with
 | false => rw [hr] at h; exact absurd rfl h
 | true => exact ⟨rfl, by simp⟩
theorem mem_take_snoc {l : List Dat} {j : Nat} {x : Dat} (hx : l[j]? = some x) : ∀ y ∈ l.take (j + 1), y ∈ l.take j ∨ y = x := by
 intro y hy
 rw [List.take_add_one, hx] at hy
 simpa using hy
theorem readerVecs_walk (l : List Dat) (v : Value) (w : World) (hv : RepS w w.heap.size l v) (hE : Env w) (hbk : Dat.bulkL l ≤ 1048576) :
  Calls Tryz.prog 6 #[v] w fun e w' => e = .returned (.bool true) ∧ Below w.heap.size w w' := by
 have HSV := Lib.hid hv
 obtain ⟨o, len, cap, rfl, hln, hcp, hmx, hrc⟩ := hv
 have HAW := Lib.hid (awake3_any w hE)
 have HE := Lib.hid hE
 have HLN := Lib.hid hln
 have HRC := Lib.hid hrc
 clear hE hln hrc
 go_enter Tryz.func6, Tryz.ntmps6
 go_upto_region 2 with (first | (go_at_call 12; refine HAW.out.mono ?_; rintro e' w1 ⟨rfl, hb1⟩))
 have HB1 := Lib.hid hb1
 clear hb1
 by_cases h20 : len ≤ 20
 case neg =>
  have hd : decide (20 < (len : Int)) = true := by simp; omega
  have hd' : decide (20 < len) = true := by simp; omega
  go_wp2_with fail
  go_ret
  exact ⟨rfl, HB1.out⟩
 have hd : decide (20 < (len : Int)) = false := by simp; omega
 have hd' : decide (20 < len) = false := by simp; omega
 go_wp2_with fail
 clear hd hd'
 go_loopg [4, 5] len (fun g av iv wr => ∃ (i : Nat) (S : ByteArray), av = .string S ∧ iv = .int .i64 i ∧ g = len - i ∧ i ≤ len ∧ S.size ≤ i * 301 ∧ Hid (S.data.toList = Rd.texts (l.take i)) ∧ Hid (∀ x ∈ l.take i, Dat.right x 0 = true ∧ Dat.marked x = false) ∧ Hid (Below w.heap.size w wr))
 case atStart => exact ⟨0, ⟨#[]⟩, rfl, rfl, rfl, by omega, by decide, Lib.hid rfl, Lib.hid (fun x hx => by simp at hx), HB1⟩
 case round =>
  obtain ⟨i, S, rfl, rfl, rfl, hi, hSz, HS, HM, HB⟩ := hrel
  by_cases hlt : i < len
  ·obtain ⟨y, hy⟩ : ∃ y, l[i]? = some y := ⟨_, List.getElem?_eq_getElem (by rw [← HLN.out]; exact hlt)⟩
   obtain ⟨b1, off1, k1, n1, d1, s1, l1, oo1, ln1, cp1, ho1, hx1, e0, e1, e2, e3, e4, er⟩ := part_at2 HRC.out HB.out hy
   subst ho1
   have hb1 := cell_lt e0
   have HX1 := Lib.hid hx1
   have ER := Lib.hid er
   have hyb : Dat.bulk y ≤ 1048576 := Nat.le_trans (bulk_mem (List.mem_of_getElem? hy)) hbk
   have htl := Dat.text_len y false
   have key : ∀ W, Below wr.heap.size wr W → W.cell? ⟨b1, off1 + i * 5, none⟩ = some (.int .i64 k1) ∧ W.cell? ⟨b1, off1 + i * 5 + 1, none⟩ = some (.int .i64 n1) ∧ W.cell? ⟨b1, off1 + i * 5 + 2, none⟩ = some (.int .i64 d1) ∧ W.cell? ⟨b1, off1 + i * 5 + 3, none⟩ = some (.string s1) ∧ W.cell? ⟨b1, off1 + i * 5 + 4, none⟩ = some (.slice oo1 ln1 cp1) := fun W hW => by
    have g : ∀ j, W.cell? ⟨b1, j, none⟩ = wr.cell? ⟨b1, j, none⟩ := fun j => hW.cell (p := ⟨b1, j, none⟩) hb1
    simp only [g]
    exact ⟨e0, e1, e2, e3, e4⟩
   have HKEY := Lib.hid key
   have hrep : ∀ W, Below wr.heap.size wr W → RepD W w.heap.size y (.agg #[.int .i64 k1, .int .i64 n1, .int .i64 d1, .string s1, .slice oo1 ln1 cp1]) := fun W hW => by rw [HX1.out]; exact ER.out.kept (hW.mono HB.out.size)
   have HREP := Lib.hid hrep
   have hww := HB.out.size
   obtain ⟨f, hf⟩ : ∃ f, Dat.full y = f := ⟨_, rfl⟩
   have t1 : Calls Tryz.prog 18 #[.agg #[.int .i64 k1, .int .i64 n1, .int .i64 d1, .string s1, .slice oo1 ln1 cp1]] wr fun e w' => e = .returned (.string ⟨f.toArray⟩) ∧ Below wr.heap.size wr w' := by
    have := dtext_any y _ w.heap.size wr (HREP.out wr (Below.refl _ _)) hww (env_kept HE.out HB.out) (fun _ => by omega)
    rw [hf] at this
    exact this
   have HT1 := Lib.hid t1
   have HF := Lib.hid hf
   have HY := Lib.hid hy
   have hm : ∀ W, Below wr.heap.size wr W → Calls Tryz.prog 20 #[.agg #[.int .i64 k1, .int .i64 n1, .int .i64 d1, .string s1, .slice oo1 ln1 cp1]] W fun e w' => e = .returned (.bool (Dat.marked y)) ∧ Below W.heap.size W w' := fun W hW => lmarked_any y _ w.heap.size W (HREP.out W hW) (Nat.le_trans hww hW.size)
   have hfw : ∀ W, Below wr.heap.size wr W → Calls Tryz.prog 21 #[.agg #[.int .i64 k1, .int .i64 n1, .int .i64 d1, .string s1, .slice oo1 ln1 cp1], .int .i64 100] W fun e w' => e = .returned (.bool (decide (0 ≤ Dat.few y 100))) ∧ Below W.heap.size W w' := fun W hW => rFew_any y _ 100 w.heap.size W (HREP.out W hW) (Nat.le_trans hww hW.size) (by decide) (by decide)
   clear key hrep t1 hf hy er hx1 htl
   by_cases hf0 : f = []
   ·subst hf0
    clear hm hfw
    go_wp2_with (first | (go_at_call 18; refine HT1.out.mono ?_; rintro e' w2 ⟨rfl, hb2⟩))
    go_ret
    exact ⟨rfl, Below.next HB.out hb2⟩
   have hfe : (f == []) = false := by simpa using hf0
   obtain ⟨hrt, hft⟩ := full_ne (x := y) (by rw [HF.out]; exact hf0)
   rw [HF.out] at hft
   by_cases hf3 : f.length ≤ 300
   case neg =>
    have hd3 : decide (300 < (f.length : Int)) = true := by simp; omega
    have hd4 : decide (300 < f.length) = true := by simp; omega
    clear hm hfw hf0 hrt hft
    go_wp2_with (first | (go_at_call 18; refine HT1.out.mono ?_; rintro e' w2 ⟨rfl, hb2⟩))
    go_ret
    exact ⟨rfl, Below.next HB.out hb2⟩
   have hd3 : decide (300 < (f.length : Int)) = false := by simp; omega
   have hd4 : decide (300 < f.length) = false := by simp; omega
   cases hmk : Dat.marked y with
   | true =>
    rw [hmk] at hm
    have HMK := Lib.hid hm
    clear hm hfw hf0 hrt hft hmk
    go_wp2_with (first | (go_at_call 18; refine HT1.out.mono ?_; rintro e' w2 ⟨rfl, hb2⟩; clear e0 e1 e2 e3 e4; obtain ⟨e0, e1, e2, e3, e4⟩ := HKEY.out _ hb2; have HB2 := Lib.hid hb2; clear hb2) | (go_at_call 20; refine (HMK.out _ HB2.out).mono ?_; rintro e' w3 ⟨rfl, hb3⟩))
    go_ret
    exact ⟨rfl, Below.next (Below.next HB.out HB2.out) hb3⟩
   | false =>
    rw [hmk] at hm
    have HMK := Lib.hid hm
    obtain ⟨fw, hfwe⟩ : ∃ fw, decide (0 ≤ Dat.few y 100) = fw := ⟨_, rfl⟩
    rw [hfwe] at hfw
    have HFW := Lib.hid hfw
    have HM2 := Lib.hid (show ∀ x ∈ l.take (i + 1), Dat.right x 0 = true ∧ Dat.marked x = false from fun x hx => by
     rcases mem_take_snoc HY.out x hx with h | h
     ·exact HM.out x h
     ·rw [h]; exact ⟨hrt, hmk⟩)
    have HS2 := Lib.hid (show (S ++ ⟨f.toArray⟩ ++ ⟨#[32]⟩ : ByteArray).data.toList = Rd.texts (l.take (i + 1)) from by
     rw [List.take_add_one, HY.out]
     simp only [Option.toList_some]
     rw [texts_snoc, ← HS.out, hft, cat3_bytes])
    have HSZ := Lib.hid (show (S ++ ⟨f.toArray⟩ ++ ⟨#[32]⟩ : ByteArray).size ≤ (i + 1) * 301 from by
     have h1 : (S ++ ⟨f.toArray⟩ ++ ⟨#[32]⟩ : ByteArray).size = S.size + f.length + 1 := by
      rw [cat3_size]
      rfl
     rw [h1]; omega)
    clear hm hfw hf0 hrt hft hmk hfwe
    cases fw
    ·go_wp2_with (first | (go_at_call 18; refine HT1.out.mono ?_; rintro e' w2 ⟨rfl, hb2⟩; clear e0 e1 e2 e3 e4; obtain ⟨e0, e1, e2, e3, e4⟩ := HKEY.out _ hb2; have HB2 := Lib.hid hb2; clear hb2) | (go_at_call 20; refine (HMK.out _ HB2.out).mono ?_; rintro e' w3 ⟨rfl, hb3⟩; clear e0 e1 e2 e3 e4; obtain ⟨e0, e1, e2, e3, e4⟩ := HKEY.out _ (Below.next HB2.out hb3); have HB3 := Lib.hid (Below.next HB2.out hb3); clear hb3) | (go_at_call 21; refine (HFW.out _ HB3.out).mono ?_; rintro e' w4 ⟨rfl, hb4⟩))
     go_ret
     exact ⟨rfl, Below.next (Below.next HB.out HB3.out) hb4⟩
    ·go_wp2_with (first | (go_at_call 18; refine HT1.out.mono ?_; rintro e' w2 ⟨rfl, hb2⟩; clear e0 e1 e2 e3 e4; obtain ⟨e0, e1, e2, e3, e4⟩ := HKEY.out _ hb2; have HB2 := Lib.hid hb2; clear hb2) | (go_at_call 20; refine (HMK.out _ HB2.out).mono ?_; rintro e' w3 ⟨rfl, hb3⟩; clear e0 e1 e2 e3 e4; obtain ⟨e0, e1, e2, e3, e4⟩ := HKEY.out _ (Below.next HB2.out hb3); have HB3 := Lib.hid (Below.next HB2.out hb3); clear hb3) | (go_at_call 21; refine (HFW.out _ HB3.out).mono ?_; rintro e' w4 ⟨rfl, hb4⟩))
     have HB4 := Lib.hid (Below.next (Below.next HB.out HB3.out) hb4)
     clear hb4 e0 e1 e2 e3 e4
     go_roundg (len - (i + 1))
     case measure => omega
     case rel => exact ⟨i + 1, _, rfl, by go_num, rfl, by omega, HSZ.out, HS2, HM2, HB4⟩
  ·have hd0 : decide ((i : Int) < (len : Int)) = false := by simp; omega
   have htk : l.take i = l := List.take_of_length_le (by rw [← HLN.out]; omega)
   rw [htk] at HS HM
   have hrl : ∀ x ∈ l, Dat.right x 0 = true := fun x hx => (HM.out x hx).1
   have hml : ∀ x ∈ l, Dat.marked x = false := fun x hx => (HM.out x hx).2
   have hAl := Rd.A_list l hrl hml
   have hAv := Rd.A_vec l hrl hml
   have hS1 : ((⟨#[40]⟩ ++ S) ++ ⟨#[41]⟩ : ByteArray).data.toList = 40 :: (Rd.texts l ++ [41]) := by rw [← HS.out, cat3_bytes]; rfl
   have hS2 : ((⟨#[35, 40]⟩ ++ S) ++ ⟨#[41]⟩ : ByteArray).data.toList = 35 :: 40 :: (Rd.texts l ++ [41]) := by rw [← HS.out, cat3_bytes]; rfl
   have hz1 : ((⟨#[40]⟩ ++ S) ++ ⟨#[41]⟩ : ByteArray).size ≤ 65536 := by
    rw [cat3_size, show (⟨#[40]⟩ : ByteArray).size = 1 from rfl, show (⟨#[41]⟩ : ByteArray).size = 1 from rfl]
    have : i * 301 ≤ 20 * 301 := Nat.mul_le_mul_right _ (by omega)
    omega
   have hz2 : ((⟨#[35, 40]⟩ ++ S) ++ ⟨#[41]⟩ : ByteArray).size ≤ 65536 := by
    rw [cat3_size, show (⟨#[35, 40]⟩ : ByteArray).size = 2 from rfl, show (⟨#[41]⟩ : ByteArray).size = 1 from rfl]
    have : i * 301 ≤ 20 * 301 := Nat.mul_le_mul_right _ (by omega)
    omega
   have hSb : S.size ≤ 6020 := by omega
   clear htk hSz
   cases hrt : Dat.right (Dat.list l) 0 with
   | false =>
    rw [hrt] at hAl
    have HR1 := Lib.hid (fun W => read_no (readD_bad hz1 (by rw [hS1]; exact hAl)) (by omega) W)
    obtain ⟨p2, er2, hR2⟩ := read_gen ((⟨#[35, 40]⟩ ++ S) ++ ⟨#[41]⟩ : ByteArray) (by omega)
    have HR2 := Lib.hid hR2
    clear hR2
    have HL := Lib.hid (fun W (hW : Below w.heap.size w W) => rlist_any l _ w.heap.size W (HSV.out.kept hW) hW.size)
    have HRT := Lib.hid hrt
    clear hAl hAv hS1 hS2 hz1 hz2 hrt hrl hml
    go_upto_region 13 with (first | (go_at_call 14; refine (HR1.out _).mono ?_; rintro e' w3 ⟨o3, len3, cap3, rfl, hr3, hb3⟩; have HB3 := Lib.hid (Below.next HB.out hb3); clear hr3 hb3))
    go_upto_region 14 with (first | (go_at_call 14; refine (HR2.out _).mono ?_; rintro e' w4 ⟨⟨v4, rfl⟩, hb4⟩; have HB4 := Lib.hid (Below.next HB3.out hb4); clear hb4))
    go_wp2_with (first | (go_at_call 23; refine (HL.out _ HB4.out).mono ?_; rintro e' w5 ⟨v5, rfl, hr5, hb5⟩; obtain ⟨k5, n5, d5, s5, o5, len5, cap5, rfl⟩ := agg_of hr5; have HR5 := Lib.hid hr5; have HB5 := Lib.hid (Below.next HB4.out hb5); clear hr5 hb5) | (go_at_call 22; refine (rRight_to (Dat.list l) _ w5.heap.size w5 false HRT.out HR5.out (Nat.le_refl _)).mono ?_; rintro e' w6 ⟨rfl, hb6⟩))
    go_ret
    exact ⟨rfl, Below.next HB5.out hb6⟩
   | true =>
    rw [hrt, if_pos rfl] at hAl
    rw [Rd.vec_of_list hrt, if_pos rfl] at hAv
    have HR1 := Lib.hid (fun W => read_one (readD_ok hz1 (by rw [hS1]; exact hAl)) (by omega) W)
    have HR2 := Lib.hid (fun W => read_one (readD_ok hz2 (by rw [hS2]; exact hAv)) (by omega) W)
    have hit : (if Dat.right (Dat.list l) 0 = true then Dat.items (Dat.list l) else none) = some l := by rw [if_pos hrt, Dat.items_list]
    have HIT := Lib.hid (fun (u : Value) (B : Nat) (W : World) (hu : RepD W B (Dat.list l) u) (hB : B ≤ W.heap.size) => show Calls Tryz.prog 24 #[u] W (ItemsPost (some l) W) from by rw [← hit]; exact items_any (Dat.list l) u B W hu hB)
    clear hAl hAv hS1 hS2 hz1 hz2 hrt hrl hml hit
    go_upto_region 13 with (first | (go_at_call 14; refine (HR1.out _).mono ?_; rintro e' w3 ⟨b3, off3, cap3, k3, n3, d3, s3, l3, o3, len3, c3, hx3, rfl, hb3, hl3, hr3, hc3⟩))
    have HB3 := Lib.hid (Below.next HB.out hb3)
    have HR3 := Lib.hid hr3
    have HC3 := Lib.hid hc3
    clear hb3 hr3 hc3 hx3
    go_upto_region 14 with (first | (go_at_call 14; refine (HR2.out _).mono ?_; rintro e' w4 ⟨b4, off4, cap4, k4, n4, d4, s4, l4, o4, len4, c4, hx4, rfl, hb4, hl4, hr4, hc4⟩))
    simp only [Dat.mk.injEq] at hx4
    obtain ⟨rfl, rfl, rfl, rfl, rfl⟩ := hx4
    obtain ⟨sl4, he4, _, _, _, _, hs4⟩ := hr4.open
    simp only [Value.agg.injEq, Array.mk.injEq, List.cons.injEq, and_true, true_and] at he4
    subst he4
    have hcell : ∀ i, w4.cell? ⟨b3, i, none⟩ = w3.cell? ⟨b3, i, none⟩ := fun i => hb4.cell (p := ⟨b3, i, none⟩) hl3
    have hc5 := HC3.out
    rw [← hcell, ← hcell, ← hcell, ← hcell, ← hcell] at hc5
    obtain ⟨j0, j1, j2, j3, j4⟩ := hc5
    have hl3' : b3 < w4.heap.size := Nat.lt_of_lt_of_le hl3 hb4.size
    have key : ∀ W, Below w4.heap.size w4 W → W.cell? ⟨b4, off4, none⟩ = some (.int .i64 7) ∧ W.cell? ⟨b4, off4 + 1, none⟩ = some (.int .i64 0) ∧ W.cell? ⟨b4, off4 + 2, none⟩ = some (.int .i64 0) ∧ W.cell? ⟨b4, off4 + 3, none⟩ = some (.string Dat.emptyB) ∧ W.cell? ⟨b4, off4 + 4, none⟩ = some (.slice o4 len4 c4) := fun W hW => by
     have g : ∀ j, W.cell? ⟨b4, j, none⟩ = w4.cell? ⟨b4, j, none⟩ := fun j => hW.cell (p := ⟨b4, j, none⟩) hl4
     simp only [g]
     exact hc4
    have HKEY := Lib.hid key
    have HI5 := Lib.hid (HIT.out _ w4.heap.size w4 ((HR3.out.kept hb4).wider hb4.size) (Nat.le_refl _))
    have HV4 := Lib.hid hs4
    have HB4 := Lib.hid (Below.next HB3.out hb4)
    clear hcell key hc4 hb4 hr4 hs4 HC3 HR3 HIT
    go_upto_region 18 with fail
    go_upto_region 19 with (first | (go_at_call 24; refine HI5.out.mono ?_; rintro e' w5 ⟨v5, L5, rfl, hL5, hr5, hb5⟩))
    obtain rfl : L5 = l := hL5
    have HV5 := Lib.hid hr5
    obtain ⟨o5, len5, cap5, rfl, hx5⟩ := hr5
    clear hx5
    have HB5 := Lib.hid hb5
    have HS5 := Lib.hid (lsame_any L5 (.slice o5 len5 cap5) (.slice o len cap) w5.heap.size w5 HV5.out ((HSV.out.kept (Below.next HB4.out hb5)).wider (Below.next HB4.out hb5).size) (Nat.le_refl _))
    have HS6 := Lib.hid (fun (W : World) (hW : Below w4.heap.size w4 W) => lsame_any L5 (.slice o4 len4 c4) (.slice o len cap) W.heap.size W ((HV4.out.kept hW).wider hW.size) ((HSV.out.kept (Below.next HB4.out hW)).wider (Below.next HB4.out hW).size) (Nat.le_refl _))
    clear hb5 j0 j1 j2 j3 j4
    go_wp2_with (first | (go_at_call 16; (with_reducible refine HS5.out.mono ?_); rintro e' w6 ⟨rfl, hb6⟩; have hb7 := Below.next HB5.out hb6; obtain ⟨g0, g1, g2, g3, g4⟩ := HKEY.out _ hb7; have hgl := Nat.lt_of_lt_of_le hl4 hb7.size; have HB6 := Lib.hid hb7; clear hb6 hb7) | (go_at_call 16; (with_reducible refine (HS6.out _ HB6.out).mono ?_); rintro e' w7 ⟨rfl, hb7⟩; have hb8 := Below.next HB6.out hb7; clear g0 g1 g2 g3 g4 hgl; obtain ⟨g0, g1, g2, g3, g4⟩ := HKEY.out _ hb8; have hgl := Nat.lt_of_lt_of_le hl4 hb8.size; have HB8 := Lib.hid hb8; clear hb7 hb8))
    go_ret
    exact ⟨rfl, Below.next HB4.out HB8.out⟩
end
end Go.Proofs.YtpcneeekmhdhgaaGreatDoor

/-
  What the proofs lean on: Writes2, RdRep, Hide, Awakes, RdP0, Walks2, ListH.
-/
import Derived.Deep.LoopGhost
import Derived.Deep.Cut
import Derived.Deep.CutRange
import Derived.Deep.DeepCutAuto
import Derived.OwnWalk
import Derived.IntWalk
import Derived.Laws.OwnMore
import Derived.BigRegion
import Derived.Test.YtpcneeekmhdhgaaDoorRddA01
import Derived.Test.YtpcneeekmhdhgaaDoorRddA02
import Derived.Test.YtpcneeekmhdhgaaDoorRddA03
import Derived.Test.YtpcneeekmhdhgaaDoorRddA04
set_option maxRecDepth 100000
set_option maxHeartbeats 16000000
namespace Go.Proofs.YtpcneeekmhdhgaaDoor
section
open Go.RowKit
theorem set5_isB {B b H : Nat} {l : List UInt8} {W : World} {c0 c1 c2 c3 c4 : Value} (h : IsB B b l W) (hx : Box5 W H 30 c0 c1 c2 c3 c4) (hH : H ≠ b) (d0 d1 d2 d3 d4 : Value) : IsB B b l (set5 W H d0 d1 d2 d3 d4) := by
 have hg : W.grownBy (set5 W H d0 d1 d2 d3 d4) (some H) := ⟨(set5_below W H H d0 d1 d2 d3 d4 (Nat.le_refl _)).os, (set5_below W H H d0 d1 d2 d3 d4 (Nat.le_refl _)).tape, (set5_below W H H d0 d1 d2 d3 d4 (Nat.le_refl _)).output, (set5_below W H H d0 d1 d2 d3 d4 (Nat.le_refl _)).size, fun k _ hk => set5_heap _ _ _ _ _ _ _ (by simpa using hk)⟩
 have one : ∀ p, Lib.BuilderAtF 41 5 B b p (Lib.byteCells l) W → Lib.BuilderAtF 41 5 B b p (Lib.byteCells l) (set5 W H d0 d1 d2 d3 d4) := by
  rintro p ⟨hB, v, hb, hown, hne⟩
  exact ⟨hB, v, (set5_heap _ _ _ _ _ _ _ (Ne.symm hH)).trans hb, hown.kept hg (.inr (Lib.ownBlock_neF hown hx (by decide))), hne⟩
 exact h.elim (fun x => .inl (one _ x)) (fun x => .inr (one _ x))
theorem set5_bkeep {B b H : Nat} {w W : World} (h : BKeep B b w W) (hH : w.heap.size ≤ H) (hB : B ≤ H) (d0 d1 d2 d3 d4 : Value) : BKeep B b w (set5 W H d0 d1 d2 d3 d4) :=
 ⟨h.1.trans (set5_below _ _ _ _ _ _ _ _ hB), fun k o hk hb ho => (set5_heap _ _ _ _ _ _ _ (by have := (Array.getElem?_eq_some_iff.1 hk).1; omega)).trans (h.2 k o hk hb ho)⟩
def Writes (B b : Nat) (x : Dat) : Prop := ∀ (v : Value) (l1 : List UInt8) (W : World), IsB B b l1 W → RepD W B x v → B ≤ W.heap.size → EnvAt B W → l1.length + (Dat.text x false).length ≤ 140737488355328 →
 Calls Tryd.prog 11 #[.pointer (some ⟨b, 0, none⟩), v] W (WPost B b (l1 ++ Dat.text x false) W)
theorem right_pair {n d : Int} {s : ByteArray} {l : List Dat} {deep : Nat} (h : Dat.right (.mk 6 n d s l) deep = true) : ∃ a c, l = [a, c] ∧ n = 0 ∧ d = 0 ∧ s = ⟨#[]⟩ ∧ Dat.right a 0 = true ∧ Dat.right c 0 = true := by
 have h2 := h
 simp [Dat.right, Dat.head] at h
 obtain ⟨_, ⟨hd, hn, hs, hl⟩, _⟩ := h
 match l, hl with
 | [a, c], _ =>
  refine ⟨a, c, rfl, hn, hd, ?_, Dat.right_part h2 (by simp [Dat.l]), Dat.right_part h2 (by simp [Dat.l])⟩
  exact ByteArray.ext hs
theorem part_0 {w wr : World} {B : Nat} {a c : Dat} {o : Option Addr} {len cap : Nat} (h : RepS w B [a, c] (.slice o len cap)) (hb : Below B w wr) :
  ∃ b off k n d s l' o' len' cap', o = some ⟨b, off, none⟩ ∧ a = .mk k n d s l' ∧ wr.cell? ⟨b, off, none⟩ = some (.int .i64 k) ∧ wr.cell? ⟨b, off + 1, none⟩ = some (.int .i64 n) ∧ wr.cell? ⟨b, off + 2, none⟩ = some (.int .i64 d) ∧
   wr.cell? ⟨b, off + 3, none⟩ = some (.string s) ∧ wr.cell? ⟨b, off + 4, none⟩ = some (.slice o' len' cap') ∧ RepD wr B (.mk k n d s l') (.agg #[.int .i64 k, .int .i64 n, .int .i64 d, .string s, .slice o' len' cap']) := by
 obtain ⟨o2, len2, cap2, he, _, _, _, h2⟩ := h
 simp only [Value.slice.injEq] at he
 obtain ⟨rfl, rfl, rfl⟩ := he
 have := part_at2 (j := 0) (x := a) h2 hb rfl
 simpa using this
theorem part_1 {w wr : World} {B : Nat} {a c : Dat} {o : Option Addr} {len cap : Nat} (h : RepS w B [a, c] (.slice o len cap)) (hb : Below B w wr) :
  ∃ b off k n d s l' o' len' cap', o = some ⟨b, off, none⟩ ∧ c = .mk k n d s l' ∧ wr.cell? ⟨b, off + 5, none⟩ = some (.int .i64 k) ∧ wr.cell? ⟨b, off + 6, none⟩ = some (.int .i64 n) ∧ wr.cell? ⟨b, off + 7, none⟩ = some (.int .i64 d) ∧
   wr.cell? ⟨b, off + 8, none⟩ = some (.string s) ∧ wr.cell? ⟨b, off + 9, none⟩ = some (.slice o' len' cap') ∧ RepD wr B (.mk k n d s l') (.agg #[.int .i64 k, .int .i64 n, .int .i64 d, .string s, .slice o' len' cap']) := by
 obtain ⟨o2, len2, cap2, he, _, _, _, h2⟩ := h
 simp only [Value.slice.injEq] at he
 obtain ⟨rfl, rfl, rfl⟩ := he
 have := part_at2 (j := 1) (x := c) h2 hb rfl
 simpa using this
def PairI (B b H : Nat) (l0 : List UInt8) (w : World) (N : Nat) (T : List UInt8) (g : Nat) (wr : World) : Prop :=
 ∃ (k n d : Int) (s : ByteArray) (l : List Dat) (o : Option Addr) (len cap : Nat) (U : List UInt8), Box5 wr H 30 (.int .i64 k) (.int .i64 n) (.int .i64 d) (.string s) (.slice o len cap) ∧ RepD wr B (.mk k n d s l) (.agg #[.int .i64 k, .int .i64 n, .int .i64 d, .string s, .slice o len cap]) ∧
  Dat.right (.mk k n d s l) 0 = true ∧ Dat.all (.mk k n d s l) ≤ g ∧ g < N ∧ IsB B b (l0 ++ U) wr ∧ BKeep B b w wr ∧ U ++ Dat.text (.mk k n d s l) true = T
theorem text_tail6 (n d : Int) (s : ByteArray) (a c : Dat) : Dat.text (.mk 6 n d s [a, c]) true = 32 :: (Dat.text a false ++ Dat.text c true) := by
 rw [Dat.text, if_pos rfl, Dat.textP]; rfl
theorem text_tail4 (n d : Int) (s : ByteArray) (l : List Dat) : Dat.text (.mk 4 n d s l) true = [] := by
 rw [Dat.text, if_neg (by omega)]; rfl
theorem text_tail (k n d : Int) (s : ByteArray) (l : List Dat) (h6 : ¬ k = 6) (h4 : ¬ k = 4) : Dat.text (.mk k n d s l) true = [32, 46, 32] ++ Dat.text (.mk k n d s l) false := by
 rw [Dat.text, Dat.text, if_neg h6, if_neg h6, if_pos rfl, if_neg h4]; rfl
theorem write_6 (B b : Nat) (l0 : List UInt8) (n d : Int) (s : ByteArray) (a c : Dat) (sl : Value) (w : World) (hb : IsB B b l0 w) (hB : B ≤ w.heap.size) (hE : EnvAt B w) (hv : RepS w B [a, c] sl) (ha : Dat.right a 0 = true) (hc : Dat.right c 0 = true)
  (IH : ∀ x, Dat.all x < Dat.all a + Dat.all c + 1 → Dat.right x 0 = true → Writes B b x)
  (hl : l0.length + (40 :: (Dat.textP [a, c] ++ [41])).length ≤ 140737488355328) :
  Calls Tryd.prog 11 #[.pointer (some ⟨b, 0, none⟩), .agg #[.int .i64 6, .int .i64 n, .int .i64 d, .string s, sl]] w (WPost B b (l0 ++ (40 :: (Dat.textP [a, c] ++ [41]))) w) := by
 obtain ⟨o, len, cap, rfl, hlen, hcap, hmax, hcc⟩ := hv
 obtain rfl : len = 2 := hlen
 replace hcc : RepS w B [a, c] (.slice o 2 cap) := ⟨o, 2, cap, rfl, rfl, hcap, hmax, hcc⟩
 obtain ⟨bb, off, ak, an, ad, ast, al, ao, alen, acap, rfl, hae, e0, e1, e2, e3, e4, er⟩ := part_0 hcc (Below.refl B w)
 have HK := Lib.hid (fun X => bkeep_alloc (b := b) hB X)
 have HB := Lib.hid (fun X => isB_alloc hb X)
 have HE := Lib.hid hE
 have HV := Lib.hid hcc
 have HI := Lib.hid IH
 have HA := Lib.hid ha
 have HC := Lib.hid hc
 have hbw := hb.lt
 have hbB := hb.base
 have hlen2 : l0.length + 1 + (Dat.textP [a, c]).length + 1 ≤ 140737488355328 := by simp at hl; omega
 have hTP : Dat.textP [a, c] = Dat.text a false ++ Dat.text c true := by rw [Dat.textP]
 have HTP := Lib.hid hTP
 have hlt : (Dat.textP [a, c]).length = (Dat.text a false).length + (Dat.text c true).length := by rw [hTP, List.length_append]
 clear hE hcc IH hl hb ha hc hTP e0 e1 e2 e3 e4 er
 go_enter Tryd.func11, Tryd.ntmps11
 go_wp2_with fail
 refine (writeString_to B b l0 [40] _ _ rfl (HB.out _) (by simp; omega) (by simp; omega)).mono ?_
 rintro e' w1 ⟨rfl, hb1, hk1⟩
 have hbox := Box5.bkeep hk1 (Box5.new w 30 _ _ _ _ _) (by omega)
 obtain ⟨q0, q1, q2, q3, q4⟩ := hbox.cells
 have HK1 := Lib.hid ((HK.out _).trans hk1)
 obtain ⟨bb', off', ak', an', ad', ast', al', ao', alen', acap', hoo, hae', e0, e1, e2, e3, e4, er⟩ := part_0 HV.out HK1.out.1
 simp only [Option.some.injEq, Addr.mk.injEq, and_true] at hoo
 obtain ⟨rfl, rfl⟩ := hoo
 have ER := Lib.hid er
 have HAE := Lib.hid hae'
 have HB1 := Lib.hid hb1
 have HX := Lib.hid hbox
 clear hb1 hk1 hbox er hae' hae
 go_wp2_with fail
 have hs1 := HK1.out.size
 refine (HI.out a (by omega) HA.out _ _ _ HB1.out (by rw [HAE.out]; exact ER.out) (by omega) (HE.out.kept HK1.out.1) (by simp only [List.length_append, List.length_cons, List.length_nil]; omega)).mono ?_
 rintro e' w2 ⟨rfl, hb2, hk2⟩
 have hbox := Box5.bkeep hk2 HX.out (by omega)
 obtain ⟨p0, p1, p2, p3, p4⟩ := hbox.cells
 obtain ⟨z0, z1, z2, z3, z4⟩ := hbox.free
 have HK2 := Lib.hid (HK1.out.trans hk2)
 obtain ⟨bb', off', ck, cn, cd, cs, cl, co, clen, ccap, hoo, hce, f0, f1, f2, f3, f4, fr⟩ := part_1 HV.out HK2.out.1
 simp only [Option.some.injEq, Addr.mk.injEq, and_true] at hoo
 obtain ⟨rfl, rfl⟩ := hoo
 have FR := Lib.hid fr
 have HCE := Lib.hid hce
 have HB2 := Lib.hid hb2
 have HX2 := Lib.hid hbox
 clear hb2 hk2 hbox fr hce q0 q1 q2 q3 q4 e0 e1 e2 e3 e4
 go_wp2_with fail
 obtain ⟨W3, hW3⟩ : ∃ W3, set5 w2 w.heap.size (.int .i64 ck) (.int .i64 cn) (.int .i64 cd) (.string cs) (.slice co clen ccap) = W3 := ⟨_, rfl⟩
 have hs2 := HK2.out.size
 have hI : PairI B b w.heap.size l0 w (Dat.all a + Dat.all c + 1) (40 :: Dat.textP [a, c]) (Dat.all c) W3 := by
  refine ⟨ck, cn, cd, cs, cl, co, clen, ccap, [40] ++ Dat.text a false, ?_, ?_, ?_, ?_, ?_, ?_, ?_, ?_⟩
  ·rw [← hW3]; exact HX2.out.set _ _ _ _ _
  ·rw [← hW3]; exact FR.out.kept (set5_below _ _ _ _ _ _ _ _ hB)
  ·rw [← HCE.out]; exact HC.out
  ·rw [← HCE.out]; exact Nat.le_refl _
  ·have := Dat.all_pos a; omega
  ·rw [← hW3]
   have := set5_isB HB2.out HX2.out (by omega) (.int .i64 ck) (.int .i64 cn) (.int .i64 cd) (.string cs) (.slice co clen ccap)
   simpa using this
  ·rw [← hW3]; exact set5_bkeep HK2.out (Nat.le_refl _) hB _ _ _ _ _
  ·rw [HTP.out, ← HCE.out]; simp
 unfold set5 at hW3
 rw [hW3]
 have HI0 := Lib.hid hI
 clear hI hW3 p0 p1 p2 p3 p4 z0 z1 z2 z3 z4 f0 f1 f2 f3 f4 HB2 HX2 FR HCE HAE ER HX HB1
 go_loopg [] (Dat.all c) (fun g wr => PairI B b w.heap.size l0 w (Dat.all a + Dat.all c + 1) (40 :: Dat.textP [a, c]) g wr)
 case atStart => exact HI0.out
 case round =>
  obtain ⟨k, n1, d1, s1, l1, o1, len1, cap1, U, hbox, hrep, hri, hle, hN, hib, hbk, hT⟩ := hrel
  obtain ⟨q0, q1, q2, q3, q4⟩ := hbox.cells
  have hTl : U.length + (Dat.text (.mk k n1 d1 s1 l1) true).length = 1 + (Dat.textP [a, c]).length := by
   have := congrArg List.length hT
   simp at this; omega
  have hszr := hbk.size
  have hlt1 := hbox.lt
  have HX := Lib.hid hbox
  have HR := Lib.hid hrep
  have HRI := Lib.hid hri
  have HIB := Lib.hid hib
  have HBK := Lib.hid hbk
  have HT := Lib.hid hT
  clear hbox hrep hri hib hbk hT
  by_cases k6 : k = 6
  ·subst k6
   obtain ⟨a', c', rfl, rfl, rfl, rfl, ha', hc'⟩ := right_pair HRI.out
   have HA' := Lib.hid ha'
   have HC' := Lib.hid hc'
   clear ha' hc'
   have hall : Dat.all (.mk 6 0 0 ⟨#[]⟩ [a', c']) = 1 + (Dat.all a' + (Dat.all c' + 0)) := rfl
   rw [text_tail6] at hTl
   simp only [List.length_cons, List.length_append] at hTl
   obtain ⟨sl, hv, _, _, _, _, hs⟩ := HR.out.open
   simp only [Value.agg.injEq, Array.mk.injEq, List.cons.injEq, and_true, true_and] at hv
   obtain rfl := hv
   have hl2 : len1 = 2 := by obtain ⟨_, _, _, he, h2, _⟩ := hs; simp only [Value.slice.injEq] at he; rw [he.2.1, h2]; rfl
   subst hl2
   have hcp : 2 ≤ cap1 ∧ cap1 ≤ 9223372036854775807 := by obtain ⟨_, _, _, he, h2, h3, h4, _⟩ := hs; simp only [Value.slice.injEq] at he; omega
   have HS := Lib.hid hs
   obtain ⟨bb, off, ho⟩ : ∃ bb off, o1 = some ⟨bb, off, none⟩ := by
    obtain ⟨bb, off, _, _, _, _, _, _, _, _, ho, _⟩ := part_0 hs (Below.refl B wr); exact ⟨bb, off, ho⟩
   subst ho
   clear hs
   go_wp2_with fail
   refine (writeString_to B b _ [32] _ _ rfl HIB.out (by simp only [List.length_append, List.length_cons, List.length_nil]; omega) (by omega)).mono ?_
   rintro e' w1 ⟨rfl, hb1, hk1⟩
   have hbox := Box5.bkeep hk1 HX.out (by omega)
   obtain ⟨p0, p1, p2, p3, p4⟩ := hbox.cells
   obtain ⟨bb', off', ak', an', ad', ast', al', ao', alen', acap', hoo, hae', e0, e1, e2, e3, e4, er⟩ := part_0 HS.out hk1.1
   simp only [Option.some.injEq, Addr.mk.injEq, and_true] at hoo
   obtain ⟨rfl, rfl⟩ := hoo
   have HK1 := Lib.hid (HBK.out.trans hk1)
   have HKr := Lib.hid hk1
   have ER := Lib.hid er
   have HAE := Lib.hid hae'
   have HB1 := Lib.hid hb1
   have HX1 := Lib.hid hbox
   have hs1 := hk1.size
   clear hb1 hk1 hbox er hae' q0 q1 q2 q3 q4
   go_wp2_with fail
   refine (HI.out a' (by omega) HA'.out _ _ _ HB1.out (by rw [HAE.out]; exact ER.out) (by omega) (HE.out.kept HK1.out.1) (by simp only [List.length_append, List.length_cons, List.length_nil]; omega)).mono ?_
   rintro e' w2 ⟨rfl, hb2, hk2⟩
   have hbox := Box5.bkeep hk2 HX1.out (by omega)
   obtain ⟨r0, r1, r2, r3, r4⟩ := hbox.cells
   obtain ⟨z0, z1, z2, z3, z4⟩ := hbox.free
   obtain ⟨bb', off', ck, cn, cd, cs, cl, co, clen, ccap, hoo, hce, f0, f1, f2, f3, f4, fr⟩ := part_1 HS.out (HKr.out.trans hk2).1
   simp only [Option.some.injEq, Addr.mk.injEq, and_true] at hoo
   obtain ⟨rfl, rfl⟩ := hoo
   have HK2 := Lib.hid (HK1.out.trans hk2)
   have FR := Lib.hid fr
   have HCE := Lib.hid hce
   have HB2 := Lib.hid hb2
   have HX2 := Lib.hid hbox
   have hs2 := hk2.size
   clear hb2 hk2 hbox fr hce e0 e1 e2 e3 e4 p0 p1 p2 p3 p4
   go_wp2_with fail
   go_roundg (Dat.all c')
   case measure => omega
   case rel =>
    refine ⟨ck, cn, cd, cs, cl, co, clen, ccap, U ++ [32] ++ Dat.text a' false, HX2.out.set _ _ _ _ _, FR.out.kept (set5_below _ _ _ _ _ _ _ _ hB), ?_, ?_, ?_, ?_, set5_bkeep HK2.out (Nat.le_refl _) hB _ _ _ _ _, ?_⟩
    ·rw [← HCE.out]; exact HC'.out
    ·rw [← HCE.out]; exact Nat.le_refl _
    ·omega
    ·have := set5_isB HB2.out HX2.out (by omega) (.int .i64 ck) (.int .i64 cn) (.int .i64 cd) (.string cs) (.slice co clen ccap)
     simpa using this
    ·rw [← HT.out, text_tail6, ← HCE.out]; simp
  by_cases k4 : k = 4
  ·subst k4
   rw [text_tail4] at hTl
   simp only [List.length_nil] at hTl
   go_wp2_with fail
   refine (writeString_to B b _ [41] _ _ rfl HIB.out (by simp only [List.length_append, List.length_cons, List.length_nil]; omega) (by omega)).mono ?_
   rintro e' w1 ⟨rfl, hb1, hk1⟩
   go_wp2
   go_end0
   refine ⟨rfl, ?_, HBK.out.trans hk1⟩
   have := HT.out
   rw [text_tail4, List.append_nil] at this
   rw [this] at hb1
   simpa using hb1
  ·rw [text_tail k n1 d1 s1 l1 k6 k4] at hTl
   simp only [List.length_append, List.length_cons, List.length_nil] at hTl
   have k6' : (k == 6) = false := by simpa using k6
   have k4' : (k != 4) = true := by simpa using k4
   go_wp2_with fail
   refine (writeString_to B b _ [32, 46, 32] _ _ rfl HIB.out (by simp only [List.length_append, List.length_cons, List.length_nil]; omega) (by omega)).mono ?_
   rintro e' w1 ⟨rfl, hb1, hk1⟩
   have hbox := Box5.bkeep hk1 HX.out (by omega)
   obtain ⟨p0, p1, p2, p3, p4⟩ := hbox.cells
   have HK1 := Lib.hid (HBK.out.trans hk1)
   have HR1 := Lib.hid (HR.out.kept hk1.1)
   have HB1 := Lib.hid hb1
   have hs1 := hk1.size
   clear hb1 hk1 hbox q0 q1 q2 q3 q4
   go_wp2_with fail
   refine (HI.out _ (by omega) HRI.out _ _ _ HB1.out HR1.out (by omega) (HE.out.kept HK1.out.1) (by simp only [List.length_append, List.length_cons, List.length_nil]; omega)).mono ?_
   rintro e' w2 ⟨rfl, hb2, hk2⟩
   have HK2 := Lib.hid (HK1.out.trans hk2)
   have HB2 := Lib.hid hb2
   have hs2 := hk2.size
   clear hb2 hk2
   go_wp2_with fail
   refine (writeString_to B b _ [41] _ _ rfl HB2.out (by simp only [List.length_append, List.length_cons, List.length_nil]; omega) (by omega)).mono ?_
   rintro e' w3 ⟨rfl, hb3, hk3⟩
   go_wp2
   go_end0
   refine ⟨rfl, ?_, HK2.out.trans hk3⟩
   have := HT.out
   rw [text_tail k n1 d1 s1 l1 k6 k4] at this
   have e : l0 ++ U ++ [32, 46, 32] ++ Dat.text (.mk k n1 d1 s1 l1) false ++ [41] = l0 ++ 40 :: (Dat.textP [a, c] ++ [41]) := by
    rw [show l0 ++ 40 :: (Dat.textP [a, c] ++ [41]) = l0 ++ (40 :: Dat.textP [a, c]) ++ [41] by simp, ← this]; simp
   rw [← e]; exact hb3
end
section
open Go.RowKit
theorem head_ways {k n d : Int} {s : List UInt8} {len : Nat} (h : Dat.head k n d s len = true) :
  (k = 0 ∧ Num.right n d = true) ∨ (k = 1 ∧ (n = 0 ∨ n = 1)) ∨ k = 2 ∨ k = 3 ∨ k = 4 ∨ k = 5 ∨ (k = 6 ∧ len = 2) ∨ k = 7 := by
 unfold Dat.head at h
 by_cases k0 : k = 0
 ·rw [if_pos k0] at h; simp only [Bool.and_eq_true] at h; exact .inl ⟨k0, h.1⟩
 rw [if_neg k0] at h
 by_cases k1 : k = 1
 ·rw [if_pos k1] at h; simp only [Bool.and_eq_true, decide_eq_true_eq] at h; exact .inr (.inl ⟨k1, h.2.1⟩)
 rw [if_neg k1] at h
 by_cases k2 : k = 2
 ·exact .inr (.inr (.inl k2))
 rw [if_neg k2] at h
 by_cases k3 : k = 3
 ·exact .inr (.inr (.inr (.inl k3)))
 rw [if_neg k3] at h
 by_cases k4 : k = 4
 ·exact .inr (.inr (.inr (.inr (.inl k4))))
 by_cases k5 : k = 5
 ·exact .inr (.inr (.inr (.inr (.inr (.inl k5)))))
 rw [if_neg (by omega)] at h
 by_cases k6 : k = 6
 ·rw [if_pos k6] at h; simp only [Bool.and_eq_true, decide_eq_true_eq] at h; exact .inr (.inr (.inr (.inr (.inr (.inr (.inl ⟨k6, h.2.2.2⟩))))))
 rw [if_neg k6] at h
 by_cases k7 : k = 7
 ·exact .inr (.inr (.inr (.inr (.inr (.inr (.inr k7))))))
 rw [if_neg k7] at h; cases h
theorem write_all (B b : Nat) : ∀ (N : Nat) (x : Dat), Dat.all x < N → Dat.right x 0 = true → Writes B b x := by
 intro N
 induction N with
 | zero => intro x h; omega
 | succ N ih =>
  intro x hx hr v l1 W hb hv hB hE hl
  obtain ⟨k, n, d, s, l⟩ := x
  obtain ⟨sl, rfl, bk, bn, bd, bs, hs⟩ := hv.open
  have hr2 := hr
  simp only [Dat.right, Bool.and_eq_true, decide_eq_true_eq] at hr
  have hw := head_ways hr.2.1
  rw [Dat.text] at hl ⊢
  obtain ⟨o, len, cap, rfl, hrest⟩ := hs
  have HS : RepS W B l (.slice o len cap) := ⟨o, len, cap, rfl, hrest⟩
  rcases hw with ⟨rfl, _⟩ | ⟨rfl, rfl | rfl⟩ | rfl | rfl | rfl | rfl | ⟨rfl, h2⟩ | rfl
  ·rw [if_neg (by omega), if_neg (by simp), Dat.textA, if_pos rfl] at hl ⊢
   exact write_0 B b l1 n d s o len cap W hb hB hE bn.1 bn.2 bd.1 bd.2 _ rfl hl
  ·rw [if_neg (by omega), if_neg (by simp), Dat.textA, if_neg (by omega), if_pos rfl, if_neg (by omega)] at hl ⊢
   exact write_1a B b l1 d s o len cap W hb hB hl
  ·rw [if_neg (by omega), if_neg (by simp), Dat.textA, if_neg (by omega), if_pos rfl, if_pos rfl] at hl ⊢
   exact write_1b B b l1 d s o len cap W hb hB hl
  ·rw [if_neg (by omega), if_neg (by simp), Dat.textA, if_neg (by omega), if_neg (by omega), if_pos rfl] at hl ⊢
   exact write_2 B b l1 n d s o len cap W hb hB hl
  ·rw [if_neg (by omega), if_neg (by simp), Dat.textA, if_neg (by omega), if_neg (by omega), if_neg (by omega), if_pos rfl] at hl ⊢
   exact write_3 B b l1 n d s o len cap W hb hB bs hl
  ·rw [if_neg (by omega), if_neg (by simp), Dat.textA, if_neg (by omega), if_neg (by omega), if_neg (by omega), if_neg (by omega), if_pos rfl] at hl ⊢
   exact write_4 B b l1 n d s o len cap W hb hB hl
  ·rw [if_neg (by omega), if_neg (by simp), Dat.textA, if_neg (by omega), if_neg (by omega), if_neg (by omega), if_neg (by omega), if_neg (by omega), if_pos rfl] at hl ⊢
   exact write_5 B b l1 n d s o len cap W hb hB hl
  ·obtain ⟨a, c, rfl, rfl, rfl, rfl, ha, hc⟩ := right_pair hr2
   rw [if_pos rfl, if_neg (by simp)] at hl ⊢
   have hall : Dat.all (.mk 6 0 0 ⟨#[]⟩ [a, c]) = 1 + (Dat.all a + (Dat.all c + 0)) := rfl
   exact write_6 B b l1 0 0 ⟨#[]⟩ a c _ W hb hB hE HS ha hc (fun y hy hyr => ih y (by omega) hyr) hl
  ·rw [if_neg (by omega), if_neg (by simp), Dat.textA, if_neg (by omega), if_neg (by omega), if_neg (by omega), if_neg (by omega), if_neg (by omega), if_neg (by omega)] at hl ⊢
   have hall : Dat.all (.mk 7 n d s l) = 1 + Dat.allL l := rfl
   exact write_7 B b l1 n d s l _ W hb hB hE HS (fun y hy => ih y (by have := Dat.all_mem hy; omega) (Dat.right_part hr2 hy)) hl
theorem write_any (B b : Nat) (x : Dat) (hr : Dat.right x 0 = true) : Writes B b x := write_all B b (Dat.all x + 1) x (by omega) hr
def Dat.full (x : Dat) : List UInt8 := if Dat.right x 0 then Dat.text x false else []
theorem dtext_any (x : Dat) (v : Value) (B : Nat) (w : World) (hv : RepD w B x v) (hB : B ≤ w.heap.size) (hE : Env w) (hl : Dat.right x 0 = true → (Dat.text x false).length ≤ 140737488355328) :
  Calls Tryd.prog 6 #[v] w fun e w' => e = .returned (.string ⟨(Dat.full x).toArray⟩) ∧ Below w.heap.size w w' := by
 obtain ⟨k, n, d, s, o, len, cap, rfl⟩ := agg_of hv
 have HV := Lib.hid hv
 have HE := Lib.hid hE
 have HL := Lib.hid hl
 have HK := Lib.hid (fun X => (Below.refl w.heap.size w).alloc (Nat.le_refl _) X)
 have C1 := Lib.hid (fun W (hb : Below w.heap.size w W) => dright_any x _ B W (HV.out.kept (hb.mono hB)) (Nat.le_trans hB hb.size))
 clear hv hE hl
 cases hr : Dat.right x 0 with
 | false =>
  have HF := Lib.hid (show Dat.full x = [] by unfold Dat.full; rw [hr]; rfl)
  rw [hr] at C1
  clear hr
  go_enter Tryd.func6, Tryd.ntmps6
  go_wp2_with fail
  refine (C1.out _ (HK.out _)).mono ?_
  rintro e' w1 ⟨rfl, hb1⟩
  go_wp2
  go_ret
  exact ⟨by rw [HF.out]; rfl, one_below hb1⟩
 | true =>
  have HF := Lib.hid (show Dat.full x = Dat.text x false by unfold Dat.full; rw [hr]; rfl)
  rw [hr] at C1
  have HR := Lib.hid hr
  clear hr
  go_enter Tryd.func6, Tryd.ntmps6
  go_wp2_with fail
  refine (C1.out _ (HK.out _)).mono ?_
  rintro e' w1 ⟨rfl, hb1⟩
  have hz := one_size hb1
  have z0 : w.heap.size < w1.heap.size := by omega
  obtain ⟨q0, q1, q2, q3, q4⟩ := one_five hb1
  have HB := Lib.hid (one_below hb1)
  clear hb1
  go_wp2_with fail
  have HW := Lib.hid ((Below.refl w1.heap.size w1).alloc (Nat.le_refl _) (.cells #[.pointer none, .slice none 0 0] 41))
  refine (write_any w1.heap.size w1.heap.size x HR.out _ [] _ (IsB.fresh w1 _ rfl) ((HV.out.kept ((Below.next HB.out HW.out).mono hB)).wider (by omega)) (by simp) ((EnvAt.of (HE.out.below HB.out)).kept HW.out) (by simpa using HL.out HR.out)).mono ?_
  rintro e' w2 ⟨rfl, hb2, hk2⟩
  have HB2 := Lib.hid hb2
  have HK2 := Lib.hid hk2
  clear hb2 hk2
  go_wp2_with fail
  refine (bstring_any w1.heap.size w1.heap.size _ w2 HB2.out (by have := HK2.out.size; simp at this; omega)).mono ?_
  rintro e' w3 ⟨rfl, hb3⟩
  go_wp2
  go_ret
  refine ⟨by rw [HF.out]; rfl, ?_⟩
  exact HB.out.trans (((HW.out.trans HK2.out.1).trans hb3).mono (by omega))
end
section
open Go Go.RowKit
def Rd.At (s : ByteArray) (a : Nat) (r : List UInt8) : Prop := a + r.length = s.size ∧ s.data.toList.drop a = r
theorem Rd.At.suf {s : ByteArray} {a : Nat} {r q : List UInt8} (h : Rd.At s a r) (hq : q <:+ r) : Rd.At s (s.size - q.length) q := by
 have hl := hq.length_le
 refine ⟨by have := h.1; omega, ?_⟩
 obtain ⟨u, hu⟩ := hq
 have e : s.size - q.length = a + u.length := by
  have := h.1
  rw [← hu, List.length_append] at this
  omega
 rw [e, ← List.drop_drop, h.2, ← hu, List.drop_left]
theorem Rd.At.pos {s : ByteArray} {a : Nat} {r : List UInt8} (h : Rd.At s a r) : a = s.size - r.length := by have := h.1; omega
theorem Rd.At.cons {s : ByteArray} {a : Nat} {b : UInt8} {r : List UInt8} (h : Rd.At s a (b :: r)) : Rd.At s (a + 1) r := by
 have h1 := h.1
 simp only [List.length_cons] at h1
 exact ⟨by omega, by rw [← List.drop_drop, h.2]; rfl⟩
theorem Rd.At.zero (s : ByteArray) : Rd.At s 0 s.data.toList := ⟨by rw [Nat.zero_add]; rfl, rfl⟩
theorem Rd.At.get {s : ByteArray} {a : Nat} {b : UInt8} {r : List UInt8} (h : Rd.At s a (b :: r)) : ∃ hlt : a < s.size, s[a] = b := by
 have h1 := h.1
 simp only [List.length_cons] at h1
 refine ⟨by omega, ?_⟩
 have := congrArg (·[0]?) h.2
 simp only [List.getElem?_drop, Nat.add_zero, List.getElem?_cons_zero] at this
 have h3 := (List.getElem?_eq_some_iff.1 this).2
 rw [← h3]
 rfl
end
section
open Go Go.RowKit
noncomputable def hide (W : World) (S : Nat → Prop) : World := { W with heap := W.heap.mapIdx fun i o => @ite _ (S i) (Classical.propDecidable _) (.deferred none) o }
theorem hide_heap {W : World} {S : Nat → Prop} {c : Nat} (h : ¬ S c) : (hide W S).heap[c]? = W.heap[c]? := by
 simp only [hide, Array.getElem?_mapIdx]
 simp only [if_neg h, Option.map_id_fun', id]
theorem hide_size (W : World) (S : Nat → Prop) : (hide W S).heap.size = W.heap.size := by simp [hide]
theorem hide_other {W : World} {S : Nat → Prop} {c o : Nat} (h : ¬ S c) : (hide W S).cell? ⟨c, o, none⟩ = W.cell? ⟨c, o, none⟩ := by
 unfold World.cell?
 rw [show (hide W S).heap[({ block := c, off := o, spot := none } : Addr).block]? = W.heap[c]? from hide_heap h]
theorem hide_same {W : World} {S : Nat → Prop} {c o : Nat} (h : S c) : (hide W S).cell? ⟨c, o, none⟩ = none := by
 have e : (hide W S).heap[c]? = W.heap[c]?.map fun _ => .deferred none := by
  simp only [hide, Array.getElem?_mapIdx]
  simp only [if_pos h]
 unfold World.cell?
 rw [show (hide W S).heap[({ block := c, off := o, spot := none } : Addr).block]? = W.heap[c]?.map fun _ => .deferred none from e]
 cases W.heap[c]? <;> rfl
theorem hide_some {W : World} {S : Nat → Prop} {c o : Nat} {v : Value} (h : (hide W S).cell? ⟨c, o, none⟩ = some v) : ¬ S c ∧ W.cell? ⟨c, o, none⟩ = some v := by
 by_cases hc : S c
 ·rw [hide_same hc] at h; cases h
 ·exact ⟨hc, by rwa [hide_other hc] at h⟩
def Shown (W : World) (S : Nat → Prop) (W' : World) (S' : Nat → Prop) : Prop := ∀ c o u, ¬ S c → W.cell? ⟨c, o, none⟩ = some u → ¬ S' c ∧ W'.cell? ⟨c, o, none⟩ = some u
theorem Shown.cells {W W' : World} {S S' : Nat → Prop} (h : Shown W S W' S') : ∀ c o u, (hide W S).cell? ⟨c, o, none⟩ = some u → (hide W' S').cell? ⟨c, o, none⟩ = some u := fun c o u hc => by
 obtain ⟨h1, h2⟩ := hide_some hc
 obtain ⟨h3, h4⟩ := h c o u h1 h2
 rw [hide_other h3]; exact h4
theorem Shown.trans {A B C : World} {S T U : Nat → Prop} (h : Shown A S B T) (h' : Shown B T C U) : Shown A S C U := fun c o u hc hu => (h c o u hc hu).elim fun h1 h2 => h' c o u h1 h2
theorem Shown.less (W : World) {S S' : Nat → Prop} (h : ∀ b, b < W.heap.size → S' b → S b) : Shown W S W S' := fun c _o _u hc hu => ⟨fun hs => hc (h c (cell_lt hu) hs), hu⟩
theorem Shown.turned {W W' : World} {S T : Nat → Prop} (h : Turned T W W') (hT : ∀ b, b < W.heap.size → T b → S b) : Shown W S W' S := fun c o u hc hu => by
 have hlt := cell_lt hu
 refine ⟨hc, ?_⟩
 unfold World.cell? at hu ⊢
 rw [show W'.heap[({ block := c, off := o, spot := none } : Addr).block]? = W.heap[c]? from h.block c hlt fun ht => hc (hT c hlt ht)]
 exact hu
theorem Shown.below {W W' : World} {S : Nat → Prop} (h : Below W.heap.size W W') : Shown W S W' S := Shown.turned (T := fun _ => False) (Turned.of_below h) fun _ _ h => h.elim
theorem Shown.five (W : World) {S : Nat → Prop} {B : Nat} (hB : S B) (d0 d1 d2 d3 d4 : Value) : Shown W S (set5 W B d0 d1 d2 d3 d4) S := fun c o u hc hu => ⟨hc, by rw [set5_other _ _ _ _ _ _ _ (fun e => hc (by subst e; exact hB))]; exact hu⟩
theorem RepD.shown {W W' : World} {S S' : Nat → Prop} {B B' : Nat} {x : Dat} {v : Value} (h : RepD (hide W S) B x v) (hs : Shown W S W' S') (hB : B ≤ B') : RepD (hide W' S') B' x v := ((rep_mono hs.cells).1 _ _ h).wider hB
theorem RepS.shown {W W' : World} {S S' : Nat → Prop} {B B' : Nat} {l : List Dat} {v : Value} (h : RepS (hide W S) B l v) (hs : Shown W S W' S') (hB : B ≤ B') : RepS (hide W' S') B' l v := (RepS.mono hs.cells h).wider hB
theorem CellsD.shown {W W' : World} {S S' : Nat → Prop} {B B' : Nat} {l : List Dat} {xs : List Value} (h : CellsD (hide W S) B l xs) (hs : Shown W S W' S') (hB : B ≤ B') : CellsD (hide W' S') B' l xs := h.mono fun _ _ hx => hx.shown hs hB
theorem RepD.unhide {W : World} {S : Nat → Prop} {B : Nat} {x : Dat} {v : Value} (h : RepD (hide W S) B x v) : RepD W B x v := (rep_mono fun _ _ _ h => (hide_some h).2).1 _ _ h
theorem RepS.unhide {W : World} {S : Nat → Prop} {B : Nat} {l : List Dat} {v : Value} (h : RepS (hide W S) B l v) : RepS W B l v := RepS.mono (fun _ _ _ h => (hide_some h).2) h
theorem row_hide {W : World} {S : Nat → Prop} {base n size : Nat} {e : TypeId} {v : Value} {xs : List Value} (h : W.ownsRow base e size v n xs) (hS : ∀ g, v.ownBlock = some g → ¬ S g) : (hide W S).ownsRow base e size v n xs := by
 refine ⟨h.1, ?_⟩
 rcases h.2 with h' | ⟨g, cap, cur, rfl, h2, h3, h4⟩
 ·exact .inl h'
 ·exact .inr ⟨g, cap, cur, rfl, h2, by rw [hide_heap (hS g rfl)]; exact h3, h4⟩
end
section
open Go
section
variable {P : Program} {ops : Array Oper} {md : Region.Mode}
end
end
section
open Go.RowKit
theorem env_kept {w w' : World} (h : Env w) (hb : Below w.heap.size w w') : Env w' := ((EnvAt.of h).kept hb).1
end
section
open Go Go.RowKit
def PB (W : World) (b : Nat) (s : ByteArray) (a : Nat) : Prop := BoxL W b 35 [.string s, .int .i64 a]
theorem PB.set {W : World} {b : Nat} {s : ByteArray} {a : Nat} (h : PB W b s a) (a' : Nat) : PB (W.setCell ⟨b, 1, none⟩ (.int .i64 a')) b s a' := BoxL.set h 1 _
theorem extract_rest {s : ByteArray} {a : Nat} {r : List UInt8} (h : Rd.At s a r) : s.extract a s.size = ⟨r.toArray⟩ := by
 rw [extract_list]
 congr 2
 rw [show s.data.toList.take s.size = s.data.toList from List.take_of_length_le (Nat.le_refl _), h.2]
theorem prest_any (b : Nat) (s : ByteArray) (a : Nat) (r : List UInt8) (w : World) (hp : PB w b s a) (hat : Rd.At s a r) (_hs : s.size ≤ 65536) :
  Calls Tryd.prog 14 #[.pointer (some ⟨b, 0, none⟩)] w fun e w' => e = .returned (.string ⟨r.toArray⟩) ∧ Below w.heap.size w w' := by
 have c0 := hp.cell 0 rfl
 have c1 := hp.cell 1 rfl
 have hl := hp.lt
 have ha : a ≤ s.size := by have := hat.1; omega
 have HE := Lib.hid (extract_rest hat)
 clear hp hat
 go_enter Tryd.func14, Tryd.ntmps14
 go_wp2_with fail
 go_quiet (fail)
 go_wp2
 go_ret
 exact ⟨congrArg (fun x => Ending.returned (.string x)) HE.out, Below.selfN _ _⟩
theorem trimLeft_blanks (r : List UInt8) (w : World) : Calls Tryd.prog 13 #[.string ⟨r.toArray⟩, .string ⟨#[32, 10, 9]⟩] w fun e w' => e = .returned (.string ⟨(Lib.trimLeftS r [32, 10, 9]).toArray⟩) ∧ Below w.heap.size w w' :=
 Any.strings_TrimLeft_laid Tryd.lays161 (by kernel_rfl) ⟨r.toArray⟩ ⟨#[32, 10, 9]⟩ w (by decide) (ascii_of_all (by decide))
namespace Rd
def trimB (r : List UInt8) : List UInt8 := Lib.trimLeftS r [32, 10, 9]
theorem trimB_suf (r : List UInt8) : trimB r <:+ r := List.dropWhile_suffix _
theorem skip_trim : ∀ r : List UInt8, skip false (trimB r) = skip false r
 | [] => rfl
 | b :: r => by
  by_cases h : b = 32 ∨ b = 10 ∨ b = 9
  ·have e : trimB (b :: r) = trimB r := by
    unfold trimB Lib.trimLeftS
    rw [List.dropWhile_cons_of_pos (by rcases h with rfl | rfl | rfl <;> rfl)]
   rw [e, skip_trim r]
   simp only [skip]
   rw [if_neg (by rcases h with rfl | rfl | rfl <;> decide), if_pos h]
  ·have e : trimB (b :: r) = b :: r := by
    unfold trimB Lib.trimLeftS
    rw [List.dropWhile_cons_of_neg]
    simp only [List.contains_cons, List.contains_nil, Bool.or_false, Bool.or_eq_true, beq_iff_eq]
    exact h
   rw [e]
theorem skip_plain {r : List UInt8} (h : Lib.hasPrefix (trimB r) [59] = false) : skip false r = trimB r := by
 rw [← skip_trim]
 have h2 : ∀ b t, trimB r = b :: t → ¬ (b = 32 ∨ b = 10 ∨ b = 9) := by
  intro b t he hb
  have := List.head?_dropWhile_not (fun b => ([32, 10, 9] : List UInt8).contains b) r
  rw [show r.dropWhile (fun b => ([32, 10, 9] : List UInt8).contains b) = trimB r from rfl, he] at this
  simp only [List.head?_cons] at this
  rcases hb with rfl | rfl | rfl <;> simp at this
 cases he : trimB r with
 | nil => rfl
 | cons b t =>
  rw [he] at h
  have h59 : b ≠ 59 := by
   rintro rfl
   simp [Lib.hasPrefix] at h
  simp only [skip]
  rw [if_neg h59, if_neg (h2 b t he)]
theorem skip_line : ∀ l : List UInt8, (Lib.indexByte l 10 = -1 ∧ skip true l = []) ∨ ∃ i : Nat, Lib.indexByte l 10 = i ∧ i < l.length ∧ skip true l = skip false (l.drop i)
 | [] => .inl ⟨rfl, rfl⟩
 | b :: l => by
  by_cases hb : b = 10
  ·subst hb
   exact .inr ⟨0, by simp [Lib.indexByte], by simp, by simp [skip]⟩
  ·have hb0 : (b == 10) = false := by simpa using hb
   rcases skip_line l with ⟨h1, h2⟩ | ⟨i, h1, h2, h3⟩
   ·exact .inl ⟨by simp [Lib.indexByte, hb0, h1], by simp [skip, hb, h2]⟩
   ·refine .inr ⟨i + 1, ?_, by simp; omega, by simp [skip, hb, h3]⟩
    have hne : ((i : Int) == -1) = false := by simp
    simp only [Lib.indexByte, hb0, h1, hne]
    simp
theorem skip_remark {r : List UInt8} (h : Lib.hasPrefix (trimB r) [59] = true) : (Lib.indexByte (trimB r) 10 = -1 ∧ skip false r = []) ∨ ∃ i : Nat, Lib.indexByte (trimB r) 10 = i ∧ i < (trimB r).length ∧ 0 < i ∧ skip false r = skip false ((trimB r).drop i) := by
 rw [← skip_trim r]
 cases he : trimB r with
 | nil => rw [he] at h; simp [Lib.hasPrefix] at h
 | cons b l =>
  rw [he] at h
  have hb : b = 59 := by
   simp [Lib.hasPrefix] at h
   exact h.symm
  subst hb
  have hb0 : ((59 : UInt8) == 10) = false := by decide
  have e : skip false (59 :: l) = skip true l := by simp [skip]
  rw [e]
  rcases skip_line l with ⟨h1, h2⟩ | ⟨i, h1, h2, h3⟩
  ·exact .inl ⟨by simp [Lib.indexByte, hb0, h1], h2⟩
  ·refine .inr ⟨i + 1, ?_, by simp; omega, by omega, by rw [h3]; rfl⟩
   have hne : ((i : Int) == -1) = false := by simp
   simp only [Lib.indexByte, hb0, h1, hne]
   simp
end Rd
def PGo (b : Nat) (s : ByteArray) (q : List UInt8) (w w' : World) : Prop := PB w' b s (s.size - q.length) ∧ Turned (fun c => c = b) w w'
theorem pblanks_any (b : Nat) (s : ByteArray) (a : Nat) (r : List UInt8) (w : World) (hp : PB w b s a) (hat : Rd.At s a r) (hs : s.size ≤ 65536) :
  Calls Tryd.prog 8 #[.pointer (some ⟨b, 0, none⟩)] w fun e w' => e = .returned (.bool (decide (s.size - (Rd.skip false r).length < s.size))) ∧ PGo b s (Rd.skip false r) w w' := by
 have HI := Lib.hid (show ∃ a' r', PB w b s a' ∧ Rd.At s a' r' ∧ Rd.skip false r' = Rd.skip false r ∧ r'.length ≤ r.length ∧ Turned (fun c => c = b) w w from ⟨a, r, hp, hat, rfl, Nat.le_refl _, Turned.refl _ _⟩)
 clear hp hat
 go_enter Tryd.func8, Tryd.ntmps8
 go_wp2_with fail
 go_loopg [] r.length (fun g wr => ∃ a' r', PB wr b s a' ∧ Rd.At s a' r' ∧ Rd.skip false r' = Rd.skip false r ∧ r'.length ≤ g ∧ Turned (fun c => c = b) w wr)
 case atStart => exact HI.out
 case round =>
  obtain ⟨a1, r1, hp, hat, hsk, hle, hT⟩ := hrel
  have HT := Lib.hid hT
  have HP := Lib.hid hp
  have HA := Lib.hid hat
  have c0 := hp.cell 0 rfl
  have c1 := hp.cell 1 rfl
  have hz1 := hp.free 1
  have hl := hp.lt
  clear hp hat hT
  obtain ⟨r2, hr2⟩ : ∃ r2, Rd.trimB r1 = r2 := ⟨_, rfl⟩
  have hA2 := HA.out.suf (Rd.trimB_suf r1)
  have hl2 : r2.length ≤ r1.length := by rw [← hr2]; exact (Rd.trimB_suf r1).length_le
  have hl1 : r1.length ≤ s.size := by have := HA.out.1; omega
  have hC2 : ∀ W, Calls Tryd.prog 13 #[.string ⟨r1.toArray⟩, .string ⟨#[32, 10, 9]⟩] W fun e w' => e = .returned (.string ⟨r2.toArray⟩) ∧ Below W.heap.size W w' := fun W => by rw [← hr2]; exact trimLeft_blanks r1 W
  rw [hr2] at hA2
  have HA2 := Lib.hid hA2
  have HR2 := Lib.hid hr2
  have HTL := Lib.hid hC2
  have HSK := Lib.hid hsk
  have HW64 := Lib.hid (show (s.size : Int) - (r2.length : Int) = ((s.size - r2.length : Nat) : Int) from by omega)
  clear hr2 hA2 hC2 hsk
  go_upto_region 1 with fail
  refine wp_region_quiet_class (Below wr.heap.size wr) 13 (by kernel_rfl) (by kernel_rfl) ((Below.refl wr.heap.size wr).drew) ?_
  intro T _ W HW HW2
  have g0 : ∀ t, (W t).cell? _ = _ := fun t => ((HW t).cell (p := ⟨b, 0, none⟩) hl).trans c0
  have g1 : ∀ t, (W t).cell? _ = _ := fun t => ((HW t).cell (p := ⟨b, 1, none⟩) hl).trans c1
  have z1 : ∀ t, (W t).frozen? _ = _ := fun t => (BoxL.keep HP.out (HW t)).free 1
  have hC1 : ∀ t, Calls Tryd.prog 14 #[.pointer (some ⟨b, 0, none⟩)] (W t) fun e w' => e = .returned (.string ⟨r1.toArray⟩) ∧ ∃ t', w' = W t' := fun t => (prest_any b s a1 r1 (W t) (BoxL.keep HP.out (HW t)) HA.out hs).mono fun e w' h => ⟨h.1, HW2 _ (Below.next (HW t) h.2)⟩
  have hC2 : ∀ t, Calls Tryd.prog 13 #[.string ⟨r1.toArray⟩, .string ⟨#[32, 10, 9]⟩] (W t) fun e w' => e = .returned (.string ⟨r2.toArray⟩) ∧ ∃ t', w' = W t' := fun t => (HTL.out (W t)).mono fun e w' h => ⟨h.1, HW2 _ (Below.next (HW t) h.2)⟩
  have HC1 := Lib.hid hC1
  have HC2 := Lib.hid hC2
  have HWH := Lib.hid HW
  clear hC1 hC2 HW HW2
  simp only [List.take_succ_cons, List.take_zero, List.drop_succ_cons, List.drop_zero]
  repeat (go_big_quiet_step (first | (go_at_call 14; exact HC1.out _) | (go_at_call 13; exact HC2.out _)))
  refine wpQuiet_nil ?_
  intro t
  go_upto_region 2 with fail
  rw [HW64.out]
  have hP1 : PB ((W t).setCell ⟨b, 1, none⟩ (.int .i64 ((s.size - r2.length : Nat) : Int))) b s (s.size - r2.length) := PB.set (BoxL.keep HP.out (HWH.out t)) _
  have hT1 : Turned (fun c => c = b) w ((W t).setCell ⟨b, 1, none⟩ (.int .i64 ((s.size - r2.length : Nat) : Int))) := HT.out.next ((Turned.of_below (HWH.out t)).next (Turned.set _ _ _ rfl))
  generalize (W t).setCell ⟨b, 1, none⟩ (.int .i64 ((s.size - r2.length : Nat) : Int)) = W1 at hP1 hT1 ⊢
  have HP1 := Lib.hid hP1
  have HT1 := Lib.hid hT1
  clear g0 g1 z1 HC1 HC2 HWH HP hP1 hT1 c0 c1 hz1 hl HTL
  have hpre : ∀ W, Calls Tryd.prog 15 #[.string ⟨r2.toArray⟩, .string ⟨#[59]⟩] W fun e w' => e = .returned (.bool (Lib.hasPrefix r2 [59])) ∧ w' = W := fun W => Tryd.strings_HasPrefix ⟨r2.toArray⟩ ⟨#[59]⟩ W
  cases hh : Lib.hasPrefix r2 [59] with
  | false =>
   rw [hh] at hpre
   have HF := Lib.hid hpre
   have HE := Lib.hid (show Rd.skip false r = r2 from by rw [← HSK.out, Rd.skip_plain (by rw [HR2.out]; exact hh), HR2.out])
   clear hpre hh
   go_wp2_with (first | (go_at_call 14; refine (prest_any b s _ r2 _ HP1.out HA2.out hs).mono ?_; rintro e' w2 ⟨rfl, hb2⟩) | (go_at_call 15; refine (HF.out _).mono ?_; rintro e' w3 ⟨rfl, rfl⟩))
   have hp2 := BoxL.keep HP1.out hb2
   have d0 := hp2.cell 0 rfl
   have d1 := hp2.cell 1 rfl
   have dl := hp2.lt
   have HB2 := Lib.hid hb2
   clear hp2 hb2
   go_quiet (fail)
   go_wp2
   go_ret
   rw [HE.out]
   exact ⟨rfl, BoxL.keep HP1.out (Below.drewN HB2.out _), HT1.out.next (Turned.of_below (Below.drewN HB2.out _))⟩
  | true =>
   rw [hh] at hpre
   have HF := Lib.hid hpre
   have HK := Lib.hid (show (Lib.indexByte r2 10 = -1 ∧ Rd.skip false r = []) ∨ ∃ i : Nat, Lib.indexByte r2 10 = i ∧ i < r2.length ∧ 0 < i ∧ Rd.skip false r = Rd.skip false (r2.drop i) from by
    have := Rd.skip_remark (r := r1) (by rw [HR2.out]; exact hh)
    rw [HR2.out, HSK.out] at this; exact this)
   have hI : ∀ W, Calls Tryd.prog 16 #[.string ⟨r2.toArray⟩, .int .u8 10] W fun e w' => e = .returned (.int .i64 (Lib.indexByte r2 10)) ∧ w' = W := fun W => Tryd.strings_IndexByte ⟨r2.toArray⟩ 10 W
   have hpos : 0 < r2.length := by
    cases r2 with
    | nil => simp [Lib.hasPrefix] at hh
    | cons c t => simp
   clear hpre hh
   rcases HK.out with ⟨h1, h2⟩ | ⟨i, h1, h2, h3, h4⟩
   ·rw [h1] at hI
    have HI2 := Lib.hid hI
    have HE := Lib.hid h2
    clear h1 h2 hI HK
    go_wp2_with (first | (go_at_call 14; refine (prest_any b s _ r2 _ HP1.out HA2.out hs).mono ?_; rintro e' w2 ⟨rfl, hb2⟩) | (go_at_call 15; refine (HF.out _).mono ?_; rintro e' w3 ⟨rfl, rfl⟩))
    have hp2 := BoxL.keep HP1.out hb2
    have HP2 := Lib.hid hp2
    have HT2 := Lib.hid (HT1.out.next (Turned.of_below hb2))
    clear hb2
    go_wp2_with (first | (go_at_call 14; refine (prest_any b s _ r2 _ HP2.out HA2.out hs).mono ?_; rintro e' w4 ⟨rfl, hb4⟩; have hp4 := BoxL.keep HP2.out hb4; have d0 := hp4.cell 0 rfl; have d1 := hp4.cell 1 rfl; have z1 := hp4.free 1; have dl := hp4.lt; have HP4 := Lib.hid hp4; have HT4 := Lib.hid (HT2.out.next (Turned.of_below (S := fun c => c = b) hb4)); clear hp4 hb4) | (go_at_call 16; refine (HI2.out _).mono ?_; rintro e' w5 ⟨rfl, rfl⟩))
    go_roundg 0
    case measure => omega
    case rel => exact ⟨s.size, [], PB.set HP4.out _, ⟨rfl, List.drop_of_length_le (Nat.le_refl _)⟩, by rw [HE.out]; rfl, Nat.le_refl _, HT4.out.next (Turned.set _ _ _ rfl)⟩
   ·rw [h1] at hI
    have HI2 := Lib.hid hI
    have HE := Lib.hid h4
    have hib : (0 ≤ (i : Int)) := by omega
    have HADD := Lib.hid (show ((s.size - r2.length : Nat) : Int) + (i : Int) = ((s.size - (r2.drop i).length : Nat) : Int) from by rw [List.length_drop]; omega)
    have hdl : (r2.drop i).length < r1.length := by rw [List.length_drop]; omega
    clear h1 h4 hI HK
    go_wp2_with (first | (go_at_call 14; refine (prest_any b s _ r2 _ HP1.out HA2.out hs).mono ?_; rintro e' w2 ⟨rfl, hb2⟩) | (go_at_call 15; refine (HF.out _).mono ?_; rintro e' w3 ⟨rfl, rfl⟩))
    have hp2 := BoxL.keep HP1.out hb2
    have HP2 := Lib.hid hp2
    have HT2 := Lib.hid (HT1.out.next (Turned.of_below hb2))
    clear hb2
    go_wp2_with (first | (go_at_call 14; refine (prest_any b s _ r2 _ HP2.out HA2.out hs).mono ?_; rintro e' w4 ⟨rfl, hb4⟩; have hp4 := BoxL.keep HP2.out hb4; have d0 := hp4.cell 0 rfl; have d1 := hp4.cell 1 rfl; have z1 := hp4.free 1; have dl := hp4.lt; have HP4 := Lib.hid hp4; have HT4 := Lib.hid (HT2.out.next (Turned.of_below (S := fun c => c = b) hb4)); clear hp4 hb4) | (go_at_call 16; refine (HI2.out _).mono ?_; rintro e' w5 ⟨rfl, rfl⟩))
    rw [HADD.out]
    go_roundg (r2.drop i).length
    case measure => omega
    case rel => exact ⟨_, r2.drop i, PB.set HP4.out _, HA2.out.suf (List.drop_suffix _ _), HE.out.symm, Nat.le_refl _, HT4.out.next (Turned.set _ _ _ rfl)⟩
end
section
open Go.RowKit
end
section
open Go.RowKit
end
section
open Go.RowKit
def Five (w : World) (b : Nat) (v0 v1 v2 v3 v4 : Value) : Prop :=
 w.cell? ⟨b, 0, none⟩ = some v0 ∧ w.cell? ⟨b, 1, none⟩ = some v1 ∧ w.cell? ⟨b, 2, none⟩ = some v2 ∧ w.cell? ⟨b, 3, none⟩ = some v3 ∧ w.cell? ⟨b, 4, none⟩ = some v4
end
section
open Go.RowKit Go.Shelf
attribute [local go_sem] Oper.semAt_some
def SB (S : Nat → Prop) (H b : Nat) : Prop := S b ∨ (H ≤ b ∧ b < H + 2)
theorem pair_madeH {W : World} {S : Nat → Prop} {B : Nat} {x y : Dat} {a0 a1 a2 a3 a4 b0 b1 b2 b3 b4 d0 d1 d2 d3 d4 : Value} (hB : S B) (hS : ∀ b, S b → b < W.heap.size) (hx : RepD (hide W S) W.heap.size x (.agg #[a0, a1, a2, a3, a4])) (hy : RepD (hide W S) W.heap.size y (.agg #[b0, b1, b2, b3, b4])) (t : TypeId) :
  RepD (hide ((set5 W B d0 d1 d2 d3 d4).alloc (.cells #[a0, a1, a2, a3, a4, b0, b1, b2, b3, b4] t)) S) ((set5 W B d0 d1 d2 d3 d4).alloc (.cells #[a0, a1, a2, a3, a4, b0, b1, b2, b3, b4] t)).heap.size (Dat.pair x y)
   (.agg #[.int .i64 6, .int .i64 0, .int .i64 0, .string ⟨#[]⟩, .slice (some ⟨W.heap.size, 0, none⟩) 2 2]) := by
 have hs := set5_size W B d0 d1 d2 d3 d4
 have hk : Shown W S ((set5 W B d0 d1 d2 d3 d4).alloc (.cells #[a0, a1, a2, a3, a4, b0, b1, b2, b3, b4] t)) S := fun c o u hc h => ⟨hc, by
  rw [World.cell?_alloc_past _ _ _ (by rw [hs]; exact cell_lt h), set5_other _ _ _ _ _ _ _ (fun e => hc (by subst e; exact hB))]; exact h⟩
 have hn : ∀ i v, #[a0, a1, a2, a3, a4, b0, b1, b2, b3, b4][i]? = some v → (hide ((set5 W B d0 d1 d2 d3 d4).alloc (.cells #[a0, a1, a2, a3, a4, b0, b1, b2, b3, b4] t)) S).cell? ⟨W.heap.size, i, none⟩ = some v := fun i v h => by
  rw [hide_other (fun e => by have := hS _ e; omega), World.cell?_alloc_at _ _ _ _ hs.symm]; exact h
 refine RepD.shut (by omega) (by omega) (by omega) (by decide) ⟨some ⟨W.heap.size, 0, none⟩, 2, 2, rfl, rfl, by omega, by omega, fun _ => ⟨rfl, by simp⟩, ?_⟩
 refine RepC.two (hn 0 _ rfl) (hn 1 _ rfl) (hn 2 _ rfl) (hn 3 _ rfl) (hn 4 _ rfl) (hn 5 _ rfl) (hn 6 _ rfl) (hn 7 _ rfl) (hn 8 _ rfl) (hn 9 _ rfl) (hx.shown hk (by simp)) (hy.shown hk (by simp))
def DatPostH (S : Nat → Prop) (x : Dat) (w : World) (e : Ending) (w' : World) : Prop := ∃ v, e = .returned v ∧ RepD (hide w' S) w'.heap.size x v ∧ Below w.heap.size w w'
theorem old_shown {w W : World} {S : Nat → Prop} {H : Nat} (hH : H = w.heap.size) (hb : Below w.heap.size w W) : Shown w S W (SB S H) := fun c o u hc hu => by
 have hlt := cell_lt hu
 refine ⟨fun h => h.elim hc fun h => by omega, ?_⟩
 exact (hb.cell (p := ⟨c, o, none⟩) hlt).trans hu
theorem sb_shut {W W' : World} {S : Nat → Prop} {H : Nat} (hk : ∀ c o u, ¬ SB S H c → W.cell? ⟨c, o, none⟩ = some u → W'.cell? ⟨c, o, none⟩ = some u) : Shown W (SB S H) W' S := fun c o u hc hu => ⟨fun h => hc (.inl h), hk c o u hc hu⟩
theorem backH_in (F : Fence) (n : Nat) (hF : F.fn 51) (hro : F.round = none) (hn : 1 ≤ n) (ll Bs n₀ B : Nat) (w0 U : World) (hU : ∀ b o u, U.cell? ⟨b, o, none⟩ = some u → w0.cell? ⟨b, o, none⟩ = some u) (l : List Dat) (o : Option Addr) (len cap : Nat) (hl : len = l.length) (hcap : len ≤ cap) (hmax : cap ≤ 9223372036854775807)
  (hv : match o with | none => l = [] ∧ cap = 0 | some a => (l ≠ [] → a.spot = none ∧ a.block < B) ∧ RepC U B l a.block a.off) (hB : B ≤ n₀) (J Jx : List (Item U B) → World → Prop)
  (hY : ∀ pre x W, J pre W → pre.length < len → YieldAt F (n - 1) Tryd.prog ll #[.int .i64 x.1.1, x.1.2.2] W fun e W' =>
   (e = .returned (.bool true) ∧ J (pre ++ [x]) W' ∧ (Below n₀ W W' ∧ W'.heap[Bs]? = W.heap[Bs]?)) ∨ (e = .returned (.bool false) ∧ Jx (pre ++ [x]) W'))
  (W : World) (hW : Below n₀ w0 W) (hBs : Boxed W Bs 23 (.slice o len cap)) (h0 : J [] W) :
  CallsIn F n Tryd.prog 51 #[.func (.yield ll) #[] #[], .pointer (some ⟨Bs, 0, none⟩)] W fun e W' => (∃ v, e = .returned v) ∧
   ((∃ ys, ys.map Item.dat = l.reverse ∧ J ys W') ∨ (∃ pre : List (Item U B), True ∧ Jx pre W')) := by
 have hs0 := hBs.cell
 have HL := Lib.hid hl
 have HV := Lib.hid hv
 clear hl hv
 refine callsIn_of_wp Tryd.func51 rfl hF ?_ hro
 simp only [Tryd.ntmps51, List.size_toArray, List.length_cons, List.length_nil, Nat.reduceAdd, Nat.reduceSub, Array.replicate_succ, Array.replicate_zero, List.push_toArray, List.append_toArray, List.nil_append, List.cons_append]
 gi_wp2
 have HBs := Lib.hid hBs
 clear hBs hs0
 gi_loopw [3] (fun i wr => ∃ (i' : Int) (pre : List (Item U B)), i = .int .i64 i' ∧ -1 ≤ i' ∧ i' < len ∧ pre.length = (len - 1 - i').toNat ∧ pre.map Item.dat = l.reverse.take pre.length ∧ J pre wr ∧ Below n₀ w0 wr ∧ wr.heap[Bs]? = W.heap[Bs]?) (fun i _ => (intOf i + 1).toNat)
 case atStart => exact ⟨_, [], rfl, by omega, by omega, by simp, by simp, h0, hW, rfl⟩
 case round =>
  obtain ⟨i', pre, rfl, h1, h2, h3, h4, hJs, hnx, hbx⟩ := hrel
  have hs1 : Boxed wr Bs 23 (.slice o len cap) := hbx.trans HBs.out
  have hs2 := hs1.cell
  have H3 := Lib.hid h3
  have H4 := Lib.hid h4
  have HX := Lib.hid hbx
  clear h3 h4 hbx hs1
  by_cases hlt : 0 ≤ i'
  ·obtain ⟨j, rfl⟩ : ∃ j : Nat, i' = j := ⟨i'.toNat, by omega⟩
   have hj : j < len := by omega
   obtain ⟨x, hx⟩ : ∃ x, l[j]? = some x := ⟨_, List.getElem?_eq_getElem (by rw [← HL.out]; exact hj)⟩
   obtain ⟨b, off, k', n', d', s', l', o', len', cap', ho, hxe, e0, e1, e2, e3, e4, er⟩ := part_at2 HV.out (Below.refl B U) hx
   obtain ⟨b', off', ho', hlt'⟩ : ∃ b' off', o = some ⟨b', off', none⟩ ∧ b' < n₀ := by
    have hvv := HV.out
    rw [ho] at hvv
    have hne : l ≠ [] := by rintro rfl; simp at hx
    exact ⟨b, off, ho, Nat.lt_of_lt_of_le (hvv.1 hne).2 hB⟩
   rw [ho] at ho'
   simp only [Option.some.injEq, Addr.mk.injEq] at ho'
   obtain ⟨rfl, rfl, _⟩ := ho'
   have g : ∀ i, wr.cell? ⟨b, i, none⟩ = w0.cell? ⟨b, i, none⟩ := fun i => hnx.cell (p := ⟨b, i, none⟩) hlt'
   have f0 := (g _).trans (hU _ _ _ e0)
   have f1 := (g _).trans (hU _ _ _ e1)
   have f2 := (g _).trans (hU _ _ _ e2)
   have f3 := (g _).trans (hU _ _ _ e3)
   have f4 := (g _).trans (hU _ _ _ e4)
   have HXx := Lib.hid hx
   subst ho hxe
   clear g e0 e1 e2 e3 e4 hx
   obtain ⟨fn, tmps, assign, body, hy, hR⟩ := hY pre ⟨((j : Int), _, _), er⟩ wr hJs (by rw [H3.out]; omega)
   dsimp only at hy
   gi_wp2
   refine hR.mono ?_
   rintro e W3 (⟨rfl, hJ3, hk3, hk4⟩ | ⟨rfl, hJx3⟩)
   ·have hs3 := (show Boxed W3 Bs 23 (.slice (some ⟨b, off, none⟩) len cap) from hk4.trans (HX.out.trans HBs.out)).cell
    gi_wp2
    go_roundw
    case rel =>
     refine ⟨(j : Int) - 1, pre ++ [_], rfl, by omega, by omega, ?_, ?_, hJ3, hnx.trans hk3, hk4.trans HX.out⟩
     ·have := H3.out; simp; omega
     ·have h3 := H3.out
      have hk : j + pre.length + 1 = l.length := by rw [← HL.out]; omega
      rw [List.map_append, H4.out, List.length_append, List.length_singleton, rev_step HXx.out hk]; rfl
    case measure => simp [intOf]
   ·gi_wp2
    refine bodyPost_ret (results_none rfl _ _ _) rfl ?_
    exact ⟨⟨_, rfl⟩, .inr ⟨_, trivial, hJx3⟩⟩
  ·have hH : pre.map Item.dat = l.reverse := by
    rw [H4.out]
    exact List.take_of_length_le (by have := H3.out; rw [List.length_reverse, ← HL.out]; omega)
   have HH := Lib.hid hH
   clear hH
   gi_wp2
   go_end0
   exact ⟨⟨_, rfl⟩, .inl ⟨pre, HH.out, hJs⟩⟩
def ListIH (S : Nat → Prop) (H : Nat) (w : World) {w0 : World} {B : Nat} (pre : List (Item w0 B)) (W : World) : Prop :=
 ((∃ (k n d : Int) (s : ByteArray) (o : Option Addr) (len cap : Nat), Box5 W (H + 1) 30 (.int .i64 k) (.int .i64 n) (.int .i64 d) (.string s) (.slice o len cap) ∧ RepD (hide W (SB S H)) W.heap.size (listUp pre) (.agg #[.int .i64 k, .int .i64 n, .int .i64 d, .string s, .slice o len cap])) ∧ Box5 W H 30 (.int .i64 0) (.int .i64 0) (.int .i64 0) (.string ⟨#[]⟩) (.slice none 0 0)) ∧ Below H w W ∧ H + 3 ≤ W.heap.size
theorem listIH_own (S : Nat → Prop) (H : Nat) (w : World) (w0 : World) (B n0 : Nat) (hw : H ≤ w.heap.size) (hn : H ≤ n0) : OwnFrom n0 (fun (pre : List (Item w0 B)) W => ListIH S H w pre W) := by
 refine OwnFrom.and (OwnFrom.and (Own.from ?_ _) (Own.from (box5_own _ _ _ _ _ _ _) _)) (OwnFrom.and (ownFrom_below hw hn) (Own.from (fun _ _ _ _ hs hg _ => Nat.le_trans hs hg.size) _))
 rintro s X Y row ⟨k, n, d, st, o, len, cap, hb, hrep⟩ hg hr
 have hb' := box5_own (H + 1) 30 (fun _ : Unit => .int .i64 k) (fun _ => .int .i64 n) (fun _ => .int .i64 d) (fun _ => .string st) (fun _ => .slice o len cap) () X Y row hb hg hr
 exact ⟨k, n, d, st, o, len, cap, hb', hrep.shown (fun c o u h1 hc => ⟨h1, cells_own hg hr c o u hc⟩) hg.size⟩
theorem listH_in (F : Fence) (n : Nat) (hF0 : F.fn 19) (hF1 : F.fn 35) (hF2 : F.fn 51) (hro : F.round = none) (hn : 6 ≤ n)
  (S : Nat → Prop) (l : List Dat) (sl : Value) (w : World) (hSb : ∀ b, S b → b < w.heap.size) (hv : RepS (hide w S) w.heap.size l sl) :
  CallsIn F n Tryd.prog 19 #[sl] w (DatPostH S (Dat.list l) w) := by
 have h1 : 1 ≤ n := by omega
 obtain ⟨o, len, cap, rfl, hl, hcap, hmax, hv⟩ := hv
 have HL := Lib.hid hl
 have HV := Lib.hid hv
 clear hl hv
 refine callsIn_of_wp_marks Tryd.func19 rfl hF0 ?_ hro
 simp only [Tryd.ntmps19, List.size_toArray, List.length_cons, List.length_nil, Nat.reduceAdd, Nat.reduceSub, Array.replicate_succ, Array.replicate_zero, List.push_toArray, List.append_toArray, List.nil_append, List.cons_append]
 gi_wp2_with (gi_at_call 35; refine (back_in F (n - 1) hF1 hro _ _ _ _).mono ?_; rintro e w' ⟨rfl, rfl⟩)
 obtain ⟨W0, hW0⟩ : ∃ W0, ((w.alloc (.cells #[.int .i64 0, .int .i64 0, .int .i64 0, .string ⟨#[]⟩, .slice none 0 0] 30)).alloc (.cells #[.int .i64 4, .int .i64 0, .int .i64 0, .string ⟨#[]⟩, .slice none 0 0] 30)).alloc (.cells #[.slice o len cap] 23) = W0 := ⟨_, rfl⟩
 have hB0 : Below w.heap.size w W0 := by rw [← hW0]; exact (((Below.refl _ w).alloc (Nat.le_refl _) _).alloc (by simp) _).alloc (by simp; omega) _
 have hsz : W0.heap.size = w.heap.size + 3 := by rw [← hW0]; simp
 have bS : Boxed W0 (w.heap.size + 1 + 1) 23 (.slice o len cap) := by
  rw [← hW0]
  have := Boxed.new ((w.alloc (.cells #[.int .i64 0, .int .i64 0, .int .i64 0, .string ⟨#[]⟩, .slice none 0 0] 30)).alloc (.cells #[.int .i64 4, .int .i64 0, .int .i64 0, .string ⟨#[]⟩, .slice none 0 0] 30)) 23 (.slice o len cap)
  simp only [World.size_alloc] at this
  exact this
 have b0 : Box5 W0 w.heap.size 30 (.int .i64 0) (.int .i64 0) (.int .i64 0) (.string ⟨#[]⟩) (.slice none 0 0) := by
  rw [← hW0]; exact ((Box5.new w _ _ _ _ _ _).alloc _).alloc _
 have b1 : Box5 W0 (w.heap.size + 1) 30 (.int .i64 4) (.int .i64 0) (.int .i64 0) (.string ⟨#[]⟩) (.slice none 0 0) := by
  rw [← hW0]
  have := (Box5.new (w.alloc (.cells #[.int .i64 0, .int .i64 0, .int .i64 0, .string ⟨#[]⟩, .slice none 0 0] 30)) 30 (.int .i64 4) (.int .i64 0) (.int .i64 0) (.string ⟨#[]⟩) (.slice none 0 0)).alloc (.cells #[.slice o len cap] 23)
  simp only [World.size_alloc] at this
  exact this
 rw [hW0]
 clear hW0
 have hI0 : ListIH S w.heap.size w ([] : List (Item (hide w S) w.heap.size)) W0 :=
  ⟨⟨⟨_, _, _, _, _, _, _, b1, RepD.shut (by omega) (by omega) (by omega) (by decide) ⟨none, 0, 0, rfl, rfl, by omega, by omega, rfl, rfl⟩⟩, b0⟩, hB0, by omega⟩
 refine wpIn_rangeFunc_ownH (α := Item (hide w S) w.heap.size) (encs := fun x => #[.int .i64 x.1.1, x.1.2.2]) (Kp := fun W W' => Below w.heap.size W W' ∧ W'.heap[w.heap.size + 1 + 1]? = W.heap[w.heap.size + 1 + 1]?) (S := fun ys => ys.map Item.dat = l.reverse) (Sp := fun _ => True) (N := len) (w0 := W0) hro h1 (gf := 51) (lb := #[.pointer (some ⟨w.heap.size + 1 + 1, 0, none⟩)]) rfl hF2 (enters_of Tryd.func51 (by kernel_rfl) rfl)
  ?seq (fun h k => ⟨h.1.trans k.1, k.2.trans h.2⟩) ?kb (Below.refl _ _) (fun _ => rfl)
  (fun pre W => ListIH S w.heap.size w pre W) (fun _ _ _ => False) (listIH_own S _ _ _ _ _ (Nat.le_refl _) (by omega)) (fun _ _ _ _ _ hs _ _ => hs) hI0
  (fun x a' W => ∃ Bx c0 c1 c2 c3 c4, w.heap.size + 2 < Bx ∧ x.1.2.2 = .agg #[c0, c1, c2, c3, c4] ∧ Box5 W Bx 30 c0 c1 c2 c3 c4 ∧ a' = { tmps := #[.slice o len cap, undef, .pointer (some ⟨w.heap.size, 0, none⟩), .pointer (some ⟨w.heap.size + 1, 0, none⟩), undef, .pointer (some ⟨Bx, 0, none⟩), .agg #[.int .i64 4, .int .i64 0, .int .i64 0, .string ⟨#[]⟩, .slice none 0 0], .slice o len cap, .func (.func 51) #[] #[.pointer (some ⟨w.heap.size + 1 + 1, 0, none⟩)], .int .i64 x.1.1, .agg #[c0, c1, c2, c3, c4], undef, undef, undef, undef, undef], defers := [] })
  ?ax ?assign ?body ?done ?stop
 case seq =>
  rintro ll J Jx W hW _ _ hY h0
  exact backH_in F (n - 1) hF2 hro (by omega) ll (w.heap.size + 1 + 1) w.heap.size w.heap.size w (hide w S) (fun _ _ _ h => (hide_some h).2) l o len cap HL.out hcap hmax HV.out (Nat.le_refl _) J Jx hY W (hB0.trans (hW.mono (by omega))) ((hW.block _ (by omega)).trans bS) h0
 case kb =>
  intro W k ob ob' hle hk hc hw
  exact ⟨belowK_b (w := w) (Nat.le_refl _) W k ob ob' (by omega) hk hc hw, World.putObj_heap_other (by omega)⟩
 case ax =>
  rintro x a' _ X Y row ⟨Bx, c0, c1, c2, c3, c4, h1, h2, h3, h4⟩ hg hr
  exact ⟨Bx, c0, c1, c2, c3, c4, h1, h2, box5_own Bx 30 (fun _ : Unit => c0) (fun _ => c1) (fun _ => c2) (fun _ => c3) (fun _ => c4) () X Y row h3 hg (fun r e => (hr r e).2), h4⟩
 case assign =>
  rintro ll pre ⟨⟨i, x, v⟩, hx⟩ W K hI hK
  obtain ⟨k, n', d, s, o', len', cap', rfl⟩ := agg_of hx
  gi_wp2
  have hS := hI.2.2
  exact hK _ _ ((KeepsOthers.alloc _ _).from _) ⟨(Below.refl _ W).alloc hI.2.1.size _, Below.heap_alloc _ _ _ (by omega)⟩ ((listIH_own S w.heap.size w (hide w S) w.heap.size W0.heap.size (Nat.le_refl _) (by omega)).alloc _ hI) ⟨W.heap.size, _, _, _, _, _, by omega, rfl, Box5.new W _ _ _ _ _ _, rfl⟩
 case body =>
  rintro ll pre ⟨⟨i, x, v⟩, hx⟩ a' W hl ⟨r, hr⟩ hI ⟨Bx, c0, c1, c2, c3, c4, hBx, rfl, bX, rfl⟩ hlt
  obtain ⟨⟨⟨ok, on, od, os, oo, ol, oc, b1, hrep⟩, b0⟩, hB, hS⟩ := hI
  obtain ⟨x0, x1, x2, x3, x4⟩ := bX.cells
  obtain ⟨q0, q1, q2, q3, q4⟩ := b1.cells
  obtain ⟨z0, z1, z2, z3, z4⟩ := b1.free
  have g1 := bX.lt
  have g2 := b1.lt
  gi_wp2
  refine ⟨((set5_keeps _ _ _ _ _ _ _).trans (KeepsOthers.alloc _ _)).from _, ⟨(set5_below _ _ _ _ _ _ _ _ (by omega)).alloc (by rw [set5_size]; omega) _, ?_⟩, ⟨⟨⟨_, _, _, _, _, _, _, (b1.set _ _ _ _ _).alloc _, ?_⟩, ?_⟩, ?_, ?_⟩⟩
  ·rw [Below.heap_alloc _ _ _ (by rw [set5_size]; omega), set5_heap _ _ _ _ _ _ _ (by omega)]
  ·rw [listUp_snoc]
   exact pair_madeH (.inr (by omega)) (fun b hb => hb.elim (fun h => by have := hSb b h; omega) (fun h => by omega)) (RepD.shown hx (old_shown rfl hB) (by omega)) hrep _
  ·exact (show Box5 (set5 W (w.heap.size + 1) _ _ _ _ _) w.heap.size _ _ _ _ _ _ from (set5_heap _ _ _ _ _ _ _ (by omega)).trans b0).alloc _
  ·exact (hB.trans (set5_below _ _ _ _ _ _ _ _ (by omega))).alloc (by rw [set5_size]; omega) _
  ·simp; omega
 case done =>
  rintro D ys W hD hys ⟨⟨⟨ok, on, od, os, oo, ol, oc, b1, hrep⟩, b0⟩, hB, hS⟩ hK
  obtain ⟨q0, q1, q2, q3, q4⟩ := b1.cells
  obtain ⟨p0, p1, p2, p3, p4⟩ := b0.cells
  obtain ⟨z0, z1, z2, z3, z4⟩ := b0.free
  gi_wp2
  have hD0 : D ≠ w.heap.size := by omega
  have bN := b0.set (.int .i64 ok) (.int .i64 on) (.int .i64 od) (.string os) (.slice oo ol oc)
  have hK' := (set5_heap W w.heap.size (.int .i64 ok) (.int .i64 on) (.int .i64 od) (.string os) (.slice oo ol oc) hD0).trans hK
  refine ⟨by simp, .inl ⟨_, _, rfl, run_takeDeferred hK', ?_⟩⟩
  have bP := (show Box5 ((set5 W w.heap.size (.int .i64 ok) (.int .i64 on) (.int .i64 od) (.string os) (.slice oo ol oc)).putObj D (.deferred none)) w.heap.size _ _ _ _ _ _ from (World.putObj_heap_other (Ne.symm hD0)).trans bN)
  obtain ⟨r0, r1, r2, r3, r4⟩ := bP.cells
  refine ⟨.agg #[.int .i64 ok, .int .i64 on, .int .i64 od, .string os, .slice oo ol oc], by simp [results, Tryd.f19, go_sem, r0, r1, r2, r3, r4], _, rfl, ?_, ?_⟩
  ·rw [← listUp_all hys]
   refine hrep.shown (sb_shut ?_) (by simp)
   intro c o u hc0 h
   have hc : ¬ (w.heap.size ≤ c ∧ c < w.heap.size + 2) := fun h => hc0 (.inr h)
   have h2 : c ≠ D := by
    rintro rfl
    unfold World.cell? at h
    rw [hK] at h
    cases h
   have h3 : (set5 W w.heap.size (.int .i64 ok) (.int .i64 on) (.int .i64 od) (.string os) (.slice oo ol oc)).cell? ⟨c, o, none⟩ = some u := by rw [set5_other _ _ _ _ _ _ _ (by omega)]; exact h
   unfold World.cell? at h3 ⊢
   rw [show ((set5 W w.heap.size (.int .i64 ok) (.int .i64 on) (.int .i64 od) (.string os) (.slice oo ol oc)).putObj D (.deferred none)).heap[c]? = _ from World.putObj_heap_other h2]
   exact h3
  ·exact (hB.trans (set5_below W w.heap.size w.heap.size _ _ _ _ _ (Nat.le_refl _))).trans (belowK_b (w := w) (Nat.le_refl _) _ D _ _ (by omega) hK' rfl rfl)
 case stop =>
  rintro D c pre W _ _ h _
  exact h.elim
theorem listH_any (S : Nat → Prop) (l : List Dat) (sl : Value) (B : Nat) (w : World) (hSb : ∀ b, S b → b < w.heap.size) (hv : RepS (hide w S) B l sl) (hB : B ≤ w.heap.size) :
  Calls Tryd.prog 19 #[sl] w (DatPostH S (Dat.list l) w) :=
 (callsIn_wide (n := 6)).1 (listH_in Fence.wide 6 trivial trivial trivial rfl (Nat.le_refl _) S l sl w hSb (hv.wider hB))
end
end Go.Proofs.YtpcneeekmhdhgaaDoor

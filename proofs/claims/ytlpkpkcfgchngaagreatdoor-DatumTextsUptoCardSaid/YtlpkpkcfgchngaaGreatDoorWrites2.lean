/-
  The contract of datum.write: a Pair; datum.write, datum.Text.
-/
import Derived.Test.YtlpkpkcfgchngaaGreatDoorWrites
import Derived.Test.YtlpkpkcfgchngaaGreatDoorRights
import Derived.Deep.LoopGhost
namespace Go.Proofs.YtlpkpkcfgchngaaGreatDoor
open Go.RowKit

theorem set5_isB {B b H : Nat} {l : List UInt8} {W : World} {c0 c1 c2 c3 c4 : Value} (h : IsB B b l W) (hx : Box5 W H 24 c0 c1 c2 c3 c4) (hH : H ≠ b) (d0 d1 d2 d3 d4 : Value) : IsB B b l (set5 W H d0 d1 d2 d3 d4) := by
  have hg : W.grownBy (set5 W H d0 d1 d2 d3 d4) (some H) := ⟨(set5_below W H H d0 d1 d2 d3 d4 (Nat.le_refl _)).os, (set5_below W H H d0 d1 d2 d3 d4 (Nat.le_refl _)).tape, (set5_below W H H d0 d1 d2 d3 d4 (Nat.le_refl _)).output, (set5_below W H H d0 d1 d2 d3 d4 (Nat.le_refl _)).size, fun k _ hk => set5_heap _ _ _ _ _ _ _ (by simpa using hk)⟩
  have one : ∀ p, Lib.BuilderAtF 47 5 B b p (Lib.byteCells l) W → Lib.BuilderAtF 47 5 B b p (Lib.byteCells l) (set5 W H d0 d1 d2 d3 d4) := by
    rintro p ⟨hB, v, hb, hown, hne⟩
    exact ⟨hB, v, (set5_heap _ _ _ _ _ _ _ (Ne.symm hH)).trans hb, hown.kept hg (.inr (Lib.ownBlock_neF hown hx (by decide))), hne⟩
  exact h.elim (fun x => .inl (one _ x)) (fun x => .inr (one _ x))
theorem set5_bkeep {B b H : Nat} {w W : World} (h : BKeep B b w W) (hH : w.heap.size ≤ H) (hB : B ≤ H) (d0 d1 d2 d3 d4 : Value) : BKeep B b w (set5 W H d0 d1 d2 d3 d4) :=
  ⟨h.1.trans (set5_below _ _ _ _ _ _ _ _ hB), fun k o hk hb ho => (set5_heap _ _ _ _ _ _ _ (by have := (Array.getElem?_eq_some_iff.1 hk).1; omega)).trans (h.2 k o hk hb ho)⟩

/-- What is known of writing a datum. -/
def Writes (B b : Nat) (x : Dat) : Prop := ∀ (v : Value) (l1 : List UInt8) (W : World), IsB B b l1 W → RepD W B x v → B ≤ W.heap.size → EnvAt B W → l1.length + (Dat.text x false).length ≤ 140737488355328 →
  Calls Tryz.prog 35 #[.pointer (some ⟨b, 0, none⟩), v] W (WPost B b (l1 ++ Dat.text x false) W)

/-- A right Pair. -/
theorem right_pair {n d : Int} {s : ByteArray} {l : List Dat} {deep : Nat} (h : Dat.right (.mk 6 n d s l) deep = true) : ∃ a c, l = [a, c] ∧ n = 0 ∧ d = 0 ∧ s = ⟨#[]⟩ ∧ Dat.right a 0 = true ∧ Dat.right c 0 = true := by
  have h2 := h
  simp [Dat.right, Dat.head] at h
  obtain ⟨_, ⟨hd, hn, hs, hl⟩, _⟩ := h
  match l, hl with
  | [a, c], _ =>
    refine ⟨a, c, rfl, hn, hd, ?_, Dat.right_part h2 (by simp [Dat.l]), Dat.right_part h2 (by simp [Dat.l])⟩
    exact ByteArray.ext hs

theorem part_0 {w wr : World} {B : Nat} {a c : Dat} {o : Option Addr} {len cap : Nat} (h : RepS w B [a, c] (.slice o len cap)) (hb : Below B w wr) :
    ∃ b off k n d s l' o' len' cap', o = some ⟨b, off, none⟩ ∧ a = .mk k n d s l' ∧ wr.cell? ⟨b, off, none⟩ = some (.int .i64 k) ∧ wr.cell? ⟨b, off + 1, none⟩ = some (.int .i64 n) ∧ wr.cell? ⟨b, off + 2, none⟩ = some (.int .i64 d) ∧
      wr.cell? ⟨b, off + 3, none⟩ = some (.string s) ∧ wr.cell? ⟨b, off + 4, none⟩ = some (.slice o' len' cap') ∧ RepD wr B (.mk k n d s l') (.agg #[.int .i64 k, .int .i64 n, .int .i64 d, .string s, .slice o' len' cap']) := by
  obtain ⟨o2, len2, cap2, he, _, _, _, h2⟩ := h
  simp only [Value.slice.injEq] at he
  obtain ⟨rfl, rfl, rfl⟩ := he
  have := part_at2 (j := 0) (x := a) h2 hb rfl
  simpa using this
theorem part_1 {w wr : World} {B : Nat} {a c : Dat} {o : Option Addr} {len cap : Nat} (h : RepS w B [a, c] (.slice o len cap)) (hb : Below B w wr) :
    ∃ b off k n d s l' o' len' cap', o = some ⟨b, off, none⟩ ∧ c = .mk k n d s l' ∧ wr.cell? ⟨b, off + 5, none⟩ = some (.int .i64 k) ∧ wr.cell? ⟨b, off + 6, none⟩ = some (.int .i64 n) ∧ wr.cell? ⟨b, off + 7, none⟩ = some (.int .i64 d) ∧
      wr.cell? ⟨b, off + 8, none⟩ = some (.string s) ∧ wr.cell? ⟨b, off + 9, none⟩ = some (.slice o' len' cap') ∧ RepD wr B (.mk k n d s l') (.agg #[.int .i64 k, .int .i64 n, .int .i64 d, .string s, .slice o' len' cap']) := by
  obtain ⟨o2, len2, cap2, he, _, _, _, h2⟩ := h
  simp only [Value.slice.injEq] at he
  obtain ⟨rfl, rfl, rfl⟩ := he
  have := part_at2 (j := 1) (x := c) h2 hb rfl
  simpa using this

/-- What the loop of a Pair keeps: the box holds the rest of the list; so much is written. -/
def PairI (B b H : Nat) (l0 : List UInt8) (w : World) (N : Nat) (T : List UInt8) (g : Nat) (wr : World) : Prop :=
  ∃ (k n d : Int) (s : ByteArray) (l : List Dat) (o : Option Addr) (len cap : Nat) (U : List UInt8), Box5 wr H 24 (.int .i64 k) (.int .i64 n) (.int .i64 d) (.string s) (.slice o len cap) ∧ RepD wr B (.mk k n d s l) (.agg #[.int .i64 k, .int .i64 n, .int .i64 d, .string s, .slice o len cap]) ∧
    Dat.right (.mk k n d s l) 0 = true ∧ Dat.all (.mk k n d s l) ≤ g ∧ g < N ∧ IsB B b (l0 ++ U) wr ∧ BKeep B b w wr ∧ U ++ Dat.text (.mk k n d s l) true = T

theorem text_tail6 (n d : Int) (s : ByteArray) (a c : Dat) : Dat.text (.mk 6 n d s [a, c]) true = 32 :: (Dat.text a false ++ Dat.text c true) := by
  rw [Dat.text, if_pos rfl, Dat.textP]; rfl
theorem text_tail4 (n d : Int) (s : ByteArray) (l : List Dat) : Dat.text (.mk 4 n d s l) true = [] := by
  rw [Dat.text, if_neg (by omega)]; rfl
theorem text_tail (k n d : Int) (s : ByteArray) (l : List Dat) (h6 : ¬ k = 6) (h4 : ¬ k = 4) : Dat.text (.mk k n d s l) true = [32, 46, 32] ++ Dat.text (.mk k n d s l) false := by
  rw [Dat.text, Dat.text, if_neg h6, if_neg h6, if_pos rfl, if_neg h4]; rfl

set_option maxHeartbeats 4000000 in
set_option maxRecDepth 100000 in
theorem write_6 (B b : Nat) (l0 : List UInt8) (n d : Int) (s : ByteArray) (a c : Dat) (sl : Value) (w : World) (hb : IsB B b l0 w) (hB : B ≤ w.heap.size) (hE : EnvAt B w) (hv : RepS w B [a, c] sl) (ha : Dat.right a 0 = true) (hc : Dat.right c 0 = true)
    (IH : ∀ x, Dat.all x < Dat.all a + Dat.all c + 1 → Dat.right x 0 = true → Writes B b x)
    (hl : l0.length + (40 :: (Dat.textP [a, c] ++ [41])).length ≤ 140737488355328) :
    Calls Tryz.prog 35 #[.pointer (some ⟨b, 0, none⟩), .agg #[.int .i64 6, .int .i64 n, .int .i64 d, .string s, sl]] w (WPost B b (l0 ++ (40 :: (Dat.textP [a, c] ++ [41]))) w) := by
  obtain ⟨o, len, cap, rfl, hlen, hcap, hmax, hcc⟩ := hv
  obtain rfl : len = 2 := hlen
  replace hcc : RepS w B [a, c] (.slice o 2 cap) := ⟨o, 2, cap, rfl, rfl, hcap, hmax, hcc⟩
  obtain ⟨bb, off, ak, an, ad, ast, al, ao, alen, acap, rfl, hae, e0, e1, e2, e3, e4, er⟩ := part_0 hcc (Below.refl B w)
  have HK := Lib.hid (fun X => bkeep_alloc (b := b) hB X)
  have HB := Lib.hid (fun X => isB_alloc hb X)
  have HE := Lib.hid hE
  have HV := Lib.hid hcc
  have HI := Lib.hid IH
  have HA := Lib.hid ha
  have HC := Lib.hid hc
  have hbw := hb.lt
  have hbB := hb.base
  have hlen2 : l0.length + 1 + (Dat.textP [a, c]).length + 1 ≤ 140737488355328 := by simp at hl; omega
  have hTP : Dat.textP [a, c] = Dat.text a false ++ Dat.text c true := by rw [Dat.textP]
  have HTP := Lib.hid hTP
  have hlt : (Dat.textP [a, c]).length = (Dat.text a false).length + (Dat.text c true).length := by rw [hTP, List.length_append]
  clear hE hcc IH hl hb ha hc hTP e0 e1 e2 e3 e4 er
  go_enter Tryz.func35, Tryz.ntmps35
  go_wp2_with fail
  refine (writeString_to B b l0 [40] _ _ rfl (HB.out _) (by simp; omega) (by simp; omega)).mono ?_
  rintro e' w1 ⟨rfl, hb1, hk1⟩
  have hbox := Box5.bkeep hk1 (Box5.new w 24 _ _ _ _ _) (by omega)
  obtain ⟨q0, q1, q2, q3, q4⟩ := hbox.cells
  have HK1 := Lib.hid ((HK.out _).trans hk1)
  obtain ⟨bb', off', ak', an', ad', ast', al', ao', alen', acap', hoo, hae', e0, e1, e2, e3, e4, er⟩ := part_0 HV.out HK1.out.1
  simp only [Option.some.injEq, Addr.mk.injEq, and_true] at hoo
  obtain ⟨rfl, rfl⟩ := hoo
  have ER := Lib.hid er
  have HAE := Lib.hid hae'
  have HB1 := Lib.hid hb1
  have HX := Lib.hid hbox
  clear hb1 hk1 hbox er hae' hae
  go_wp2_with fail
  have hs1 := HK1.out.size
  refine (HI.out a (by omega) HA.out _ _ _ HB1.out (by rw [HAE.out]; exact ER.out) (by omega) (HE.out.kept HK1.out.1) (by simp only [List.length_append, List.length_cons, List.length_nil]; omega)).mono ?_
  rintro e' w2 ⟨rfl, hb2, hk2⟩
  have hbox := Box5.bkeep hk2 HX.out (by omega)
  obtain ⟨p0, p1, p2, p3, p4⟩ := hbox.cells
  obtain ⟨z0, z1, z2, z3, z4⟩ := hbox.free
  have HK2 := Lib.hid (HK1.out.trans hk2)
  obtain ⟨bb', off', ck, cn, cd, cs, cl, co, clen, ccap, hoo, hce, f0, f1, f2, f3, f4, fr⟩ := part_1 HV.out HK2.out.1
  simp only [Option.some.injEq, Addr.mk.injEq, and_true] at hoo
  obtain ⟨rfl, rfl⟩ := hoo
  have FR := Lib.hid fr
  have HCE := Lib.hid hce
  have HB2 := Lib.hid hb2
  have HX2 := Lib.hid hbox
  clear hb2 hk2 hbox fr hce q0 q1 q2 q3 q4 e0 e1 e2 e3 e4
  go_wp2_with fail
  obtain ⟨W3, hW3⟩ : ∃ W3, set5 w2 w.heap.size (.int .i64 ck) (.int .i64 cn) (.int .i64 cd) (.string cs) (.slice co clen ccap) = W3 := ⟨_, rfl⟩
  have hs2 := HK2.out.size
  have hI : PairI B b w.heap.size l0 w (Dat.all a + Dat.all c + 1) (40 :: Dat.textP [a, c]) (Dat.all c) W3 := by
    refine ⟨ck, cn, cd, cs, cl, co, clen, ccap, [40] ++ Dat.text a false, ?_, ?_, ?_, ?_, ?_, ?_, ?_, ?_⟩
    · rw [← hW3]; exact HX2.out.set _ _ _ _ _
    · rw [← hW3]; exact FR.out.kept (set5_below _ _ _ _ _ _ _ _ hB)
    · rw [← HCE.out]; exact HC.out
    · rw [← HCE.out]; exact Nat.le_refl _
    · have := Dat.all_pos a; omega
    · rw [← hW3]
      have := set5_isB HB2.out HX2.out (by omega) (.int .i64 ck) (.int .i64 cn) (.int .i64 cd) (.string cs) (.slice co clen ccap)
      simpa using this
    · rw [← hW3]; exact set5_bkeep HK2.out (Nat.le_refl _) hB _ _ _ _ _
    · rw [HTP.out, ← HCE.out]; simp
  unfold set5 at hW3
  rw [hW3]
  have HI0 := Lib.hid hI
  clear hI hW3 p0 p1 p2 p3 p4 z0 z1 z2 z3 z4 f0 f1 f2 f3 f4 HB2 HX2 FR HCE HAE ER HX HB1
  go_loopg [] (Dat.all c) (fun g wr => PairI B b w.heap.size l0 w (Dat.all a + Dat.all c + 1) (40 :: Dat.textP [a, c]) g wr)
  case atStart => exact HI0.out
  case round =>
    obtain ⟨k, n1, d1, s1, l1, o1, len1, cap1, U, hbox, hrep, hri, hle, hN, hib, hbk, hT⟩ := hrel
    obtain ⟨q0, q1, q2, q3, q4⟩ := hbox.cells
    have hTl : U.length + (Dat.text (.mk k n1 d1 s1 l1) true).length = 1 + (Dat.textP [a, c]).length := by
      have := congrArg List.length hT
      simp at this; omega
    have hszr := hbk.size
    have hlt1 := hbox.lt
    have HX := Lib.hid hbox
    have HR := Lib.hid hrep
    have HRI := Lib.hid hri
    have HIB := Lib.hid hib
    have HBK := Lib.hid hbk
    have HT := Lib.hid hT
    clear hbox hrep hri hib hbk hT
    by_cases k6 : k = 6
    · subst k6
      obtain ⟨a', c', rfl, rfl, rfl, rfl, ha', hc'⟩ := right_pair HRI.out
      have HA' := Lib.hid ha'
      have HC' := Lib.hid hc'
      clear ha' hc'
      have hall : Dat.all (.mk 6 0 0 ⟨#[]⟩ [a', c']) = 1 + (Dat.all a' + (Dat.all c' + 0)) := rfl
      rw [text_tail6] at hTl
      simp only [List.length_cons, List.length_append] at hTl
      obtain ⟨sl, hv, _, _, _, _, hs⟩ := HR.out.open
      simp only [Value.agg.injEq, Array.mk.injEq, List.cons.injEq, and_true, true_and] at hv
      obtain rfl := hv
      have hl2 : len1 = 2 := by obtain ⟨_, _, _, he, h2, _⟩ := hs; simp only [Value.slice.injEq] at he; rw [he.2.1, h2]; rfl
      subst hl2
      have hcp : 2 ≤ cap1 ∧ cap1 ≤ 9223372036854775807 := by obtain ⟨_, _, _, he, h2, h3, h4, _⟩ := hs; simp only [Value.slice.injEq] at he; omega
      have HS := Lib.hid hs
      obtain ⟨bb, off, ho⟩ : ∃ bb off, o1 = some ⟨bb, off, none⟩ := by
        obtain ⟨bb, off, _, _, _, _, _, _, _, _, ho, _⟩ := part_0 hs (Below.refl B wr); exact ⟨bb, off, ho⟩
      subst ho
      clear hs
      go_wp2_with fail
      refine (writeString_to B b _ [32] _ _ rfl HIB.out (by simp only [List.length_append, List.length_cons, List.length_nil]; omega) (by omega)).mono ?_
      rintro e' w1 ⟨rfl, hb1, hk1⟩
      have hbox := Box5.bkeep hk1 HX.out (by omega)
      obtain ⟨p0, p1, p2, p3, p4⟩ := hbox.cells
      obtain ⟨bb', off', ak', an', ad', ast', al', ao', alen', acap', hoo, hae', e0, e1, e2, e3, e4, er⟩ := part_0 HS.out hk1.1
      simp only [Option.some.injEq, Addr.mk.injEq, and_true] at hoo
      obtain ⟨rfl, rfl⟩ := hoo
      have HK1 := Lib.hid (HBK.out.trans hk1)
      have HKr := Lib.hid hk1
      have ER := Lib.hid er
      have HAE := Lib.hid hae'
      have HB1 := Lib.hid hb1
      have HX1 := Lib.hid hbox
      have hs1 := hk1.size
      clear hb1 hk1 hbox er hae' q0 q1 q2 q3 q4
      go_wp2_with fail
      refine (HI.out a' (by omega) HA'.out _ _ _ HB1.out (by rw [HAE.out]; exact ER.out) (by omega) (HE.out.kept HK1.out.1) (by simp only [List.length_append, List.length_cons, List.length_nil]; omega)).mono ?_
      rintro e' w2 ⟨rfl, hb2, hk2⟩
      have hbox := Box5.bkeep hk2 HX1.out (by omega)
      obtain ⟨r0, r1, r2, r3, r4⟩ := hbox.cells
      obtain ⟨z0, z1, z2, z3, z4⟩ := hbox.free
      obtain ⟨bb', off', ck, cn, cd, cs, cl, co, clen, ccap, hoo, hce, f0, f1, f2, f3, f4, fr⟩ := part_1 HS.out (HKr.out.trans hk2).1
      simp only [Option.some.injEq, Addr.mk.injEq, and_true] at hoo
      obtain ⟨rfl, rfl⟩ := hoo
      have HK2 := Lib.hid (HK1.out.trans hk2)
      have FR := Lib.hid fr
      have HCE := Lib.hid hce
      have HB2 := Lib.hid hb2
      have HX2 := Lib.hid hbox
      have hs2 := hk2.size
      clear hb2 hk2 hbox fr hce e0 e1 e2 e3 e4 p0 p1 p2 p3 p4
      go_wp2_with fail
      go_roundg (Dat.all c')
      case measure => omega
      case rel =>
        refine ⟨ck, cn, cd, cs, cl, co, clen, ccap, U ++ [32] ++ Dat.text a' false, HX2.out.set _ _ _ _ _, FR.out.kept (set5_below _ _ _ _ _ _ _ _ hB), ?_, ?_, ?_, ?_, set5_bkeep HK2.out (Nat.le_refl _) hB _ _ _ _ _, ?_⟩
        · rw [← HCE.out]; exact HC'.out
        · rw [← HCE.out]; exact Nat.le_refl _
        · omega
        · have := set5_isB HB2.out HX2.out (by omega) (.int .i64 ck) (.int .i64 cn) (.int .i64 cd) (.string cs) (.slice co clen ccap)
          simpa using this
        · rw [← HT.out, text_tail6, ← HCE.out]; simp
    by_cases k4 : k = 4
    · subst k4
      rw [text_tail4] at hTl
      simp only [List.length_nil] at hTl
      go_wp2_with fail
      refine (writeString_to B b _ [41] _ _ rfl HIB.out (by simp only [List.length_append, List.length_cons, List.length_nil]; omega) (by omega)).mono ?_
      rintro e' w1 ⟨rfl, hb1, hk1⟩
      go_wp2
      go_end0
      refine ⟨rfl, ?_, HBK.out.trans hk1⟩
      have := HT.out
      rw [text_tail4, List.append_nil] at this
      rw [this] at hb1
      simpa using hb1
    · rw [text_tail k n1 d1 s1 l1 k6 k4] at hTl
      simp only [List.length_append, List.length_cons, List.length_nil] at hTl
      have k6' : (k == 6) = false := by simpa using k6
      have k4' : (k != 4) = true := by simpa using k4
      go_wp2_with fail
      refine (writeString_to B b _ [32, 46, 32] _ _ rfl HIB.out (by simp only [List.length_append, List.length_cons, List.length_nil]; omega) (by omega)).mono ?_
      rintro e' w1 ⟨rfl, hb1, hk1⟩
      have hbox := Box5.bkeep hk1 HX.out (by omega)
      obtain ⟨p0, p1, p2, p3, p4⟩ := hbox.cells
      have HK1 := Lib.hid (HBK.out.trans hk1)
      have HR1 := Lib.hid (HR.out.kept hk1.1)
      have HB1 := Lib.hid hb1
      have hs1 := hk1.size
      clear hb1 hk1 hbox q0 q1 q2 q3 q4
      go_wp2_with fail
      refine (HI.out _ (by omega) HRI.out _ _ _ HB1.out HR1.out (by omega) (HE.out.kept HK1.out.1) (by simp only [List.length_append, List.length_cons, List.length_nil]; omega)).mono ?_
      rintro e' w2 ⟨rfl, hb2, hk2⟩
      have HK2 := Lib.hid (HK1.out.trans hk2)
      have HB2 := Lib.hid hb2
      have hs2 := hk2.size
      clear hb2 hk2
      go_wp2_with fail
      refine (writeString_to B b _ [41] _ _ rfl HB2.out (by simp only [List.length_append, List.length_cons, List.length_nil]; omega) (by omega)).mono ?_
      rintro e' w3 ⟨rfl, hb3, hk3⟩
      go_wp2
      go_end0
      refine ⟨rfl, ?_, HK2.out.trans hk3⟩
      have := HT.out
      rw [text_tail k n1 d1 s1 l1 k6 k4] at this
      have e : l0 ++ U ++ [32, 46, 32] ++ Dat.text (.mk k n1 d1 s1 l1) false ++ [41] = l0 ++ 40 :: (Dat.textP [a, c] ++ [41]) := by
        rw [show l0 ++ 40 :: (Dat.textP [a, c] ++ [41]) = l0 ++ (40 :: Dat.textP [a, c]) ++ [41] by simp, ← this]; simp
      rw [← e]; exact hb3
end Go.Proofs.YtlpkpkcfgchngaaGreatDoor

namespace Go.Proofs.YtlpkpkcfgchngaaGreatDoor
open Go.RowKit

/-- The ways in which a head is right. -/
theorem head_ways {k n d : Int} {s : List UInt8} {len : Nat} (h : Dat.head k n d s len = true) :
    (k = 0 ∧ Num.right n d = true) ∨ (k = 1 ∧ (n = 0 ∨ n = 1)) ∨ k = 2 ∨ k = 3 ∨ k = 4 ∨ k = 5 ∨ (k = 6 ∧ len = 2) ∨ k = 7 := by
  unfold Dat.head at h
  by_cases k0 : k = 0
  · rw [if_pos k0] at h; simp only [Bool.and_eq_true] at h; exact .inl ⟨k0, h.1⟩
  rw [if_neg k0] at h
  by_cases k1 : k = 1
  · rw [if_pos k1] at h; simp only [Bool.and_eq_true, decide_eq_true_eq] at h; exact .inr (.inl ⟨k1, h.2.1⟩)
  rw [if_neg k1] at h
  by_cases k2 : k = 2
  · exact .inr (.inr (.inl k2))
  rw [if_neg k2] at h
  by_cases k3 : k = 3
  · exact .inr (.inr (.inr (.inl k3)))
  rw [if_neg k3] at h
  by_cases k4 : k = 4
  · exact .inr (.inr (.inr (.inr (.inl k4))))
  by_cases k5 : k = 5
  · exact .inr (.inr (.inr (.inr (.inr (.inl k5)))))
  rw [if_neg (by omega)] at h
  by_cases k6 : k = 6
  · rw [if_pos k6] at h; simp only [Bool.and_eq_true, decide_eq_true_eq] at h; exact .inr (.inr (.inr (.inr (.inr (.inr (.inl ⟨k6, h.2.2.2⟩))))))
  rw [if_neg k6] at h
  by_cases k7 : k = 7
  · exact .inr (.inr (.inr (.inr (.inr (.inr (.inr k7))))))
  rw [if_neg k7] at h; cases h

theorem write_all (B b : Nat) : ∀ (N : Nat) (x : Dat), Dat.all x < N → Dat.right x 0 = true → Writes B b x := by
  intro N
  induction N with
  | zero => intro x h; omega
  | succ N ih =>
    intro x hx hr v l1 W hb hv hB hE hl
    obtain ⟨k, n, d, s, l⟩ := x
    obtain ⟨sl, rfl, bk, bn, bd, bs, hs⟩ := hv.open
    have hr2 := hr
    simp only [Dat.right, Bool.and_eq_true, decide_eq_true_eq] at hr
    have hw := head_ways hr.2.1
    rw [Dat.text] at hl ⊢
    obtain ⟨o, len, cap, rfl, hrest⟩ := hs
    have HS : RepS W B l (.slice o len cap) := ⟨o, len, cap, rfl, hrest⟩
    rcases hw with ⟨rfl, _⟩ | ⟨rfl, rfl | rfl⟩ | rfl | rfl | rfl | rfl | ⟨rfl, h2⟩ | rfl
    · rw [if_neg (by omega), if_neg (by simp), Dat.textA, if_pos rfl] at hl ⊢
      exact write_0 B b l1 n d s o len cap W hb hB hE bn.1 bn.2 bd.1 bd.2 _ rfl hl
    · rw [if_neg (by omega), if_neg (by simp), Dat.textA, if_neg (by omega), if_pos rfl, if_neg (by omega)] at hl ⊢
      exact write_1a B b l1 d s o len cap W hb hB hl
    · rw [if_neg (by omega), if_neg (by simp), Dat.textA, if_neg (by omega), if_pos rfl, if_pos rfl] at hl ⊢
      exact write_1b B b l1 d s o len cap W hb hB hl
    · rw [if_neg (by omega), if_neg (by simp), Dat.textA, if_neg (by omega), if_neg (by omega), if_pos rfl] at hl ⊢
      exact write_2 B b l1 n d s o len cap W hb hB hl
    · rw [if_neg (by omega), if_neg (by simp), Dat.textA, if_neg (by omega), if_neg (by omega), if_neg (by omega), if_pos rfl] at hl ⊢
      exact write_3 B b l1 n d s o len cap W hb hB bs hl
    · rw [if_neg (by omega), if_neg (by simp), Dat.textA, if_neg (by omega), if_neg (by omega), if_neg (by omega), if_neg (by omega), if_pos rfl] at hl ⊢
      exact write_4 B b l1 n d s o len cap W hb hB hl
    · rw [if_neg (by omega), if_neg (by simp), Dat.textA, if_neg (by omega), if_neg (by omega), if_neg (by omega), if_neg (by omega), if_neg (by omega), if_pos rfl] at hl ⊢
      exact write_5 B b l1 n d s o len cap W hb hB hl
    · obtain ⟨a, c, rfl, rfl, rfl, rfl, ha, hc⟩ := right_pair hr2
      rw [if_pos rfl, if_neg (by simp)] at hl ⊢
      have hall : Dat.all (.mk 6 0 0 ⟨#[]⟩ [a, c]) = 1 + (Dat.all a + (Dat.all c + 0)) := rfl
      exact write_6 B b l1 0 0 ⟨#[]⟩ a c _ W hb hB hE HS ha hc (fun y hy hyr => ih y (by omega) hyr) hl
    · rw [if_neg (by omega), if_neg (by simp), Dat.textA, if_neg (by omega), if_neg (by omega), if_neg (by omega), if_neg (by omega), if_neg (by omega), if_neg (by omega)] at hl ⊢
      have hall : Dat.all (.mk 7 n d s l) = 1 + Dat.allL l := rfl
      exact write_7 B b l1 n d s l _ W hb hB hE HS (fun y hy => ih y (by have := Dat.all_mem hy; omega) (Dat.right_part hr2 hy)) hl

theorem write_any (B b : Nat) (x : Dat) (hr : Dat.right x 0 = true) : Writes B b x := write_all B b (Dat.all x + 1) x (by omega) hr

/-- datum.Text, as a list of bytes. -/
def Dat.full (x : Dat) : List UInt8 := if Dat.right x 0 then Dat.text x false else []

set_option maxHeartbeats 2000000 in
theorem dtext_any (x : Dat) (v : Value) (B : Nat) (w : World) (hv : RepD w B x v) (hB : B ≤ w.heap.size) (hE : Env w) (hl : Dat.right x 0 = true → (Dat.text x false).length ≤ 140737488355328) :
    Calls Tryz.prog 17 #[v] w fun e w' => e = .returned (.string ⟨(Dat.full x).toArray⟩) ∧ Below w.heap.size w w' := by
  obtain ⟨k, n, d, s, o, len, cap, rfl⟩ := agg_of hv
  have HV := Lib.hid hv
  have HE := Lib.hid hE
  have HL := Lib.hid hl
  have HK := Lib.hid (fun X => (Below.refl w.heap.size w).alloc (Nat.le_refl _) X)
  have C1 := Lib.hid (fun W (hb : Below w.heap.size w W) => dright_any x _ B W (HV.out.kept (hb.mono hB)) (Nat.le_trans hB hb.size))
  clear hv hE hl
  cases hr : Dat.right x 0 with
  | false =>
    have HF := Lib.hid (show Dat.full x = [] by unfold Dat.full; rw [hr]; rfl)
    rw [hr] at C1
    clear hr
    go_enter Tryz.func17, Tryz.ntmps17
    go_wp2_with fail
    refine (C1.out _ (HK.out _)).mono ?_
    rintro e' w1 ⟨rfl, hb1⟩
    go_wp2
    go_ret
    exact ⟨by rw [HF.out]; rfl, one_below hb1⟩
  | true =>
    have HF := Lib.hid (show Dat.full x = Dat.text x false by unfold Dat.full; rw [hr]; rfl)
    rw [hr] at C1
    have HR := Lib.hid hr
    clear hr
    go_enter Tryz.func17, Tryz.ntmps17
    go_wp2_with fail
    refine (C1.out _ (HK.out _)).mono ?_
    rintro e' w1 ⟨rfl, hb1⟩
    have hz := one_size hb1
    have z0 : w.heap.size < w1.heap.size := by omega
    obtain ⟨q0, q1, q2, q3, q4⟩ := one_five hb1
    have HB := Lib.hid (one_below hb1)
    clear hb1
    go_wp2_with fail
    have HW := Lib.hid ((Below.refl w1.heap.size w1).alloc (Nat.le_refl _) (.cells #[.pointer none, .slice none 0 0] 47))
    refine (write_any w1.heap.size w1.heap.size x HR.out _ [] _ (IsB.fresh w1 _ rfl) ((HV.out.kept ((Below.next HB.out HW.out).mono hB)).wider (by omega)) (by simp) ((EnvAt.of (HE.out.below HB.out)).kept HW.out) (by simpa using HL.out HR.out)).mono ?_
    rintro e' w2 ⟨rfl, hb2, hk2⟩
    have HB2 := Lib.hid hb2
    have HK2 := Lib.hid hk2
    clear hb2 hk2
    go_wp2_with fail
    refine (bstring_any w1.heap.size w1.heap.size _ w2 HB2.out (by have := HK2.out.size; simp at this; omega)).mono ?_
    rintro e' w3 ⟨rfl, hb3⟩
    go_wp2
    go_ret
    refine ⟨by rw [HF.out]; rfl, ?_⟩
    exact HB.out.trans (((HW.out.trans HK2.out.1).trans hb3).mono (by omega))
end Go.Proofs.YtlpkpkcfgchngaaGreatDoor

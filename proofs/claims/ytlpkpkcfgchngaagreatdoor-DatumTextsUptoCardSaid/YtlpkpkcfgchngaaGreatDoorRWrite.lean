/-
  The contracts of corbelref02.text, Text.
-/
import Derived.Test.YtlpkpkcfgchngaaGreatDoorRItems
import Derived.Test.YtlpkpkcfgchngaaGreatDoorWrites2
import Derived.Test.YtlpkpkcfgchngaaGreatDoorRTexts
namespace Go.Proofs.YtlpkpkcfgchngaaGreatDoor
open Go.RowKit

namespace Dat
theorem textV_app : ∀ (l m : List Dat) (f : Bool), l ≠ [] → textV (l ++ m) f = textV l f ++ textV m false
  | [], _, _, h => absurd rfl h
  | [x], m, f, _ => by simp [textV]
  | x :: y :: l, m, f, _ => by
    have := textV_app (y :: l) m false (by simp)
    have e1 : textV (x :: (y :: l ++ m)) f = (if f then [] else [32]) ++ (text x false ++ textV (y :: l ++ m) false) := by rw [textV]
    have e2 : textV (x :: y :: l) f = (if f then [] else [32]) ++ (text x false ++ textV (y :: l) false) := by rw [textV]
    rw [List.cons_append, e1, this, e2]
    simp only [List.append_assoc]
theorem textV_step {l : List Dat} {j : Nat} {x : Dat} (h : l[j]? = some x) : textV (l.take (j + 1)) true = textV (l.take j) true ++ ((if j = 0 then [] else [32]) ++ text x false) := by
  have e : l.take (j + 1) = l.take j ++ [x] := by rw [List.take_add_one, h]; rfl
  by_cases h0 : j = 0
  · subst h0; rw [e]; simp [textV]
  · rw [e, textV_app _ _ _ (by
      intro h1
      have := congrArg List.length h1
      have hj := (List.getElem?_eq_some_iff.1 h).1
      rw [List.length_take] at this
      simp only [List.length_nil] at this; omega), if_neg h0]
    simp [textV]
theorem textV_le (l : List Dat) (j : Nat) : (textV (l.take j) true).length ≤ (textV l true).length := by
  by_cases h0 : l.take j = []
  · rw [h0]; simp [textV]
  · have := textV_app (l.take j) (l.drop j) true h0
    rw [List.take_append_drop] at this
    rw [this]; simp
theorem text_num (n d : Int) (s : ByteArray) (l : List Dat) : text (.mk 0 n d s l) false = Num.text n d := by simp [text, textA]
theorem text_bool1 (d : Int) (s : ByteArray) (l : List Dat) : text (.mk 1 1 d s l) false = [35, 116] := by simp [text, textA]
theorem text_bool0 (d : Int) (s : ByteArray) (l : List Dat) : text (.mk 1 0 d s l) false = [35, 102] := by simp [text, textA]
theorem text_sym (n d : Int) (s : ByteArray) (l : List Dat) : text (.mk 2 n d s l) false = s.data.toList := by simp [text, textA]
theorem text_str (n d : Int) (s : ByteArray) (l : List Dat) : text (.mk 3 n d s l) false = 34 :: (s.data.toList ++ [34]) := by simp [text, textA]
theorem text_null (n d : Int) (s : ByteArray) (l : List Dat) : text (.mk 4 n d s l) false = [40, 41] := by simp [text, textA]
theorem text_void (n d : Int) (s : ByteArray) (l : List Dat) : text (.mk 5 n d s l) false = [35, 118] := by simp [text, textA]
theorem text_vec (n d : Int) (s : ByteArray) (l : List Dat) : text (.mk 7 n d s l) false = [35, 40] ++ (textV l true ++ [41]) := by simp [text, textA]
theorem text_pair (n d : Int) (s : ByteArray) (a b : Dat) : text (.mk 6 n d s [a, b]) false = 40 :: ((text a false ++ text b true) ++ [41]) := by
  rw [text, if_pos rfl, textP]; rfl
end Dat

theorem str_of (s : ByteArray) : (⟨s.data.toList.toArray⟩ : ByteArray) = s := by obtain ⟨⟨l⟩⟩ := s; rfl
theorem str_len (l : List UInt8) : (⟨l.toArray⟩ : ByteArray).size = l.length := by show l.toArray.size = _; simp

/-- What the loop of a Pair keeps: the box holds the rest of the list; so much is written. -/
def RPairI (B H N : Nat) (w : World) (G : List UInt8) (g : Nat) (t : Value) (wr : World) : Prop :=
  ∃ (k n d : Int) (s : ByteArray) (l : List Dat) (o : Option Addr) (len cap : Nat) (U : List UInt8), t = .string ⟨U.toArray⟩ ∧ Box5 wr H 24 (.int .i64 k) (.int .i64 n) (.int .i64 d) (.string s) (.slice o len cap) ∧ RepD wr B (.mk k n d s l) (.agg #[.int .i64 k, .int .i64 n, .int .i64 d, .string s, .slice o len cap]) ∧
    Dat.right (.mk k n d s l) 0 = true ∧ Dat.all (.mk k n d s l) ≤ g ∧ g ≤ N ∧ Below w.heap.size w wr ∧ U ++ Dat.text (.mk k n d s l) true = G

set_option maxHeartbeats 4000000 in
set_option maxRecDepth 100000 in
theorem rwrite_all (B : Nat) : ∀ (N : Nat) (x : Dat), Dat.all x ≤ N → Dat.right x 0 = true → ∀ (v : Value) (w : World), RepD w B x v → B ≤ w.heap.size → (Dat.text x false).length ≤ 140737488355328 →
    Calls Tryz.prog 37 #[v] w fun e w' => e = .returned (.string ⟨(Dat.text x false).toArray⟩) ∧ Below w.heap.size w w' := by
  intro N
  induction N with
  | zero => intro x h; have := Dat.all_pos x; omega
  | succ N ih =>
    intro x hN hr v w hv hB hlen
    have HI := Lib.hid ih
    clear ih
    obtain ⟨k, n, d, s, l⟩ := x
    obtain ⟨sl, rfl, bk, bn, bd, bs, hs⟩ := hv.open
    have HS := Lib.hid hs
    obtain ⟨o, len, cap, rfl, hl, hcap, hmax, hc⟩ := hs
    have HR := Lib.hid hr
    have HC := Lib.hid hc
    have HL := Lib.hid hl
    have HU := Lib.hid (Uno.refl w #[.int .i64 k, .int .i64 n, .int .i64 d, .string s, .slice o len cap] 24)
    have hh : Dat.head k n d s.data.toList l.length = true := by
      rw [Dat.right] at hr; simp only [Bool.and_eq_true] at hr; exact hr.2.1
    clear hv hc hl hr
    rcases Dat.head_cases hh with ⟨rfl, h1, he, rfl⟩ | ⟨rfl, rfl, rfl | rfl, he, rfl⟩ | ⟨rfl, rfl, rfl, h1, rfl⟩ | ⟨rfl, rfl, rfl, h1, rfl⟩ | ⟨rfl, rfl, rfl, he, rfl⟩ | ⟨rfl, rfl, rfl, he, rfl⟩ | ⟨rfl, rfl, rfl, he, a, b, rfl⟩ | ⟨rfl, rfl, rfl, he⟩
    · obtain rfl : s = ⟨#[]⟩ := he
      clear hh
      rw [Dat.text_num] at hlen ⊢
      have HT := Lib.hid (fun W => rtext_any n d bn.1 bn.2 bd.1 bd.2 W)
      generalize Num.text n d = T at *
      go_enter Tryz.func37, Tryz.ntmps37
      go_wp2_with (first | (go_at_call 61; refine (HT.out _).mono ?_; rintro e' w1 ⟨rfl, hb1⟩) | fail)
      go_ret
      exact ⟨rfl, (HU.out.next hb1).below⟩
    · obtain rfl : s = ⟨#[]⟩ := he
      rw [Dat.text_bool0]
      go_enter Tryz.func37, Tryz.ntmps37
      go_wp2_with fail
      go_ret
      exact ⟨rfl, HU.out.below⟩
    · obtain rfl : s = ⟨#[]⟩ := he
      rw [Dat.text_bool1]
      go_enter Tryz.func37, Tryz.ntmps37
      go_wp2_with fail
      go_ret
      exact ⟨rfl, HU.out.below⟩
    · rw [Dat.text_sym, str_of]
      go_enter Tryz.func37, Tryz.ntmps37
      go_wp2_with fail
      go_ret
      exact ⟨rfl, HU.out.below⟩
    · rw [Dat.text_str] at hlen ⊢
      have hsz : s.data.toList.length = s.size := rfl
      simp only [List.length_cons, List.length_append, List.length_nil] at hlen
      go_enter Tryz.func37, Tryz.ntmps37
      go_wp2_with fail
      go_ret
      refine ⟨?_, HU.out.below⟩
      congr 2
    · obtain rfl : s = ⟨#[]⟩ := he
      rw [Dat.text_null]
      go_enter Tryz.func37, Tryz.ntmps37
      go_wp2_with fail
      go_ret
      exact ⟨rfl, HU.out.below⟩
    · obtain rfl : s = ⟨#[]⟩ := he
      rw [Dat.text_void]
      go_enter Tryz.func37, Tryz.ntmps37
      go_wp2_with fail
      go_ret
      exact ⟨rfl, HU.out.below⟩
    · -- a Pair
      obtain rfl : s = ⟨#[]⟩ := he
      rw [Dat.text_pair] at hlen ⊢
      obtain ⟨_, a', b', hab, _, _, _, ha, hb⟩ := right_pair_at HR.out
      simp only [List.cons.injEq, and_true] at hab
      obtain ⟨rfl, rfl⟩ := hab
      have HA := Lib.hid (Dat.right_less _ _ 0 (by omega) ha)
      have HBr := Lib.hid (Dat.right_less _ _ 0 (by omega) hb)
      have hall : Dat.all (.mk 6 0 0 ⟨#[]⟩ [a, b]) = 1 + (Dat.all a + (Dat.all b + 0)) := rfl
      have hl2 : len = 2 := by rw [HL.out]; rfl
      subst hl2
      simp only [List.length_cons, List.length_append, List.length_nil] at hlen
      obtain ⟨bb, off, ak, an, ad, ast, al, ao, alen, acap, ho, hae, e0, e1, e2, e3, e4, er⟩ := part_0 HS.out (HU.out.below.mono hB)
      subst ho
      have HAE := Lib.hid hae
      have ER := Lib.hid er
      have hab := Dat.all_pos b
      have hs0 := HU.out.size
      clear hae er ha hb
      go_enter Tryz.func37, Tryz.ntmps37
      go_wp2_with fail
      refine (HI.out a (by omega) HA.out _ _ (by rw [HAE.out]; exact ER.out) (by omega) (by omega)).mono ?_
      rintro e' w1 ⟨rfl, hb1⟩
      have HU1 := Lib.hid (HU.out.next hb1)
      have hs1 := HU1.out.size
      have p4 := HU1.out.cell 4 (v := .slice (some ⟨bb, off, none⟩) 2 cap) rfl
      clear hb1 e0 e1 e2 e3 e4
      obtain ⟨bb', off', ck, cn, cd, cs, cl, co, clen, ccap, hoo, hce, f0, f1, f2, f3, f4, fr⟩ := part_1 HS.out (HU1.out.below.mono hB)
      simp only [Option.some.injEq, Addr.mk.injEq, and_true] at hoo
      obtain ⟨rfl, rfl⟩ := hoo
      have FR := Lib.hid fr
      have HCE := Lib.hid hce
      clear fr hce
      go_wp2_with fail
      have hI : RPairI B w1.heap.size (Dat.all b) w (40 :: (Dat.text a false ++ Dat.text b true)) (Dat.all b) (.string ⟨(40 :: Dat.text a false).toArray⟩) (w1.alloc (.cells #[.int .i64 ck, .int .i64 cn, .int .i64 cd, .string cs, .slice co clen ccap] 24)) := by
        refine ⟨ck, cn, cd, cs, cl, co, clen, ccap, 40 :: Dat.text a false, rfl, Box5.new _ _ _ _ _ _ _, FR.out.kept ((Below.refl _ _).alloc (by omega) _), by rw [← HCE.out]; exact HBr.out, by rw [← HCE.out]; exact Nat.le_refl _, Nat.le_refl _, HU1.out.below.alloc (by omega) _, by rw [← HCE.out]; simp⟩
      have HI0 := Lib.hid hI
      clear hI f0 f1 f2 f3 f4 p4 FR HCE
      go_loopg [5] (Dat.all b) (fun g t wr => RPairI B w1.heap.size (Dat.all b) w (40 :: (Dat.text a false ++ Dat.text b true)) g t wr)
      case atStart =>
        have := HI0.out
        first | exact this | (rw [show (⟨(40 :: Dat.text a false).toArray⟩ : ByteArray) = ⟨#[40]⟩ ++ ⟨(Dat.text a false).toArray⟩ from (str_app [40] _).symm] at this; exact this)
      case round =>
        obtain ⟨k1, n1, d1, s1, l1, o1, len1, cap1, U, rfl, hbox, hrep, hri, hle, hgN, hb, hT⟩ := hrel
        obtain ⟨q0, q1, q2, q3, q4⟩ := hbox.cells
        obtain ⟨z0, z1, z2, z3, z4⟩ := hbox.free
        have hTl : U.length + (Dat.text (.mk k1 n1 d1 s1 l1) true).length = 1 + ((Dat.text a false).length + (Dat.text b true).length) := by
          have := congrArg List.length hT
          simp at this; omega
        have hlt1 := hbox.lt
        have hsz := hb.size
        have HX := Lib.hid hbox
        have HRP := Lib.hid hrep
        have HRI := Lib.hid hri
        have HB := Lib.hid hb
        have HT := Lib.hid hT
        clear hbox hrep hri hb hT
        by_cases k6 : k1 = 6
        · subst k6
          obtain ⟨_, a', c', rfl, rfl, rfl, rfl, ha', hc'⟩ := right_pair_at HRI.out
          have HA' := Lib.hid (Dat.right_less _ _ 0 (by omega) ha')
          have HC' := Lib.hid (Dat.right_less _ _ 0 (by omega) hc')
          clear ha' hc'
          have hall2 : Dat.all (.mk 6 0 0 ⟨#[]⟩ [a', c']) = 1 + (Dat.all a' + (Dat.all c' + 0)) := rfl
          have hac := Dat.all_pos c'
          obtain ⟨sl, hv, _, _, _, _, hs⟩ := HRP.out.open
          simp only [Value.agg.injEq, Array.mk.injEq, List.cons.injEq, and_true, true_and] at hv
          obtain rfl := hv
          have hl2 : len1 = 2 := by obtain ⟨_, _, _, he, h2, _⟩ := hs; simp only [Value.slice.injEq] at he; rw [he.2.1, h2]; rfl
          subst hl2
          have hcp : 2 ≤ cap1 ∧ cap1 ≤ 9223372036854775807 := by obtain ⟨_, _, _, he, h2, h3, h4, _⟩ := hs; simp only [Value.slice.injEq] at he; omega
          have HS1 := Lib.hid hs
          obtain ⟨bb1, off1, ak', an', ad', ast', al', ao', alen', acap', ho, hae', e0, e1, e2, e3, e4, er⟩ := part_0 hs (Below.refl _ wr)
          subst ho
          have ER' := Lib.hid er
          have HAE' := Lib.hid hae'
          clear hs er hae'
          rw [text_tail6] at hTl
          simp only [List.length_cons, List.length_append] at hTl
          go_wp2_with fail
          refine (HI.out a' (by omega) HA'.out _ _ (by rw [HAE'.out]; exact ER'.out) (by omega) (by omega)).mono ?_
          rintro e' w2 ⟨rfl, hb2⟩
          have hbox2 : Box5 w2 w1.heap.size 24 (.int .i64 6) (.int .i64 0) (.int .i64 0) (.string ⟨#[]⟩) (.slice (some ⟨bb1, off1, none⟩) 2 cap1) := (hb2.block _ hlt1).trans HX.out
          obtain ⟨r0, r1, r2, r3, r4⟩ := hbox2.cells
          obtain ⟨y0, y1, y2, y3, y4⟩ := hbox2.free
          obtain ⟨bb2, off2, ck2, cn2, cd2, cs2, cl2, co2, clen2, ccap2, hoo, hce, f0, f1, f2, f3, f4, fr⟩ := part_1 HS1.out (hb2.mono (by omega))
          simp only [Option.some.injEq, Addr.mk.injEq, and_true] at hoo
          obtain ⟨rfl, rfl⟩ := hoo
          have FR := Lib.hid fr
          have HCE := Lib.hid hce
          have HB2 := Lib.hid (Below.next HB.out hb2)
          have HX2 := Lib.hid hbox2
          have hs2 := hb2.size
          clear hb2 hbox2 fr hce e0 e1 e2 e3 e4 q0 q1 q2 q3 q4 z0 z1 z2 z3 z4
          go_wp2_with fail
          go_roundg (Dat.all c')
          case measure => omega
          case rel =>
            refine ⟨ck2, cn2, cd2, cs2, cl2, co2, clen2, ccap2, U ++ [32] ++ Dat.text a' false, ?_, HX2.out.set _ _ _ _ _, FR.out.kept (set5_below _ _ _ _ _ _ _ _ (by omega)), ?_, ?_, by omega, HB2.out.trans (set5_below _ _ _ _ _ _ _ _ (by omega)), ?_⟩
            · show Value.string (_ ++ (⟨[32].toArray⟩ : ByteArray) ++ _) = _
              rw [str_app, str_app]
            · rw [← HCE.out]; exact HC'.out
            · rw [← HCE.out]; exact Nat.le_refl _
            · rw [← HT.out, text_tail6, ← HCE.out]; simp
        by_cases k4 : k1 = 4
        · subst k4
          have HF := Lib.hid (show U ++ [41] = 40 :: ((Dat.text a false ++ Dat.text b true) ++ [41]) by
            have := HT.out
            rw [text_tail4, List.append_nil] at this
            rw [this]; rfl)
          rw [text_tail4, List.length_nil] at hTl
          go_wp2_with fail
          go_ret
          refine ⟨?_, HB.out⟩
          show Ending.returned (.string (_ ++ (⟨[41].toArray⟩ : ByteArray))) = _
          rw [str_app, HF.out]
        · have k6' : (k1 == 6) = false := by simpa using k6
          have k4' : (k1 != 4) = true := by simpa using k4
          have HF := Lib.hid (show U ++ [32, 46, 32] ++ Dat.text (.mk k1 n1 d1 s1 l1) false ++ [41] = 40 :: ((Dat.text a false ++ Dat.text b true) ++ [41]) by
            have := HT.out
            rw [text_tail k1 n1 d1 s1 l1 k6 k4] at this
            rw [← List.cons_append, ← this]; simp)
          rw [text_tail k1 n1 d1 s1 l1 k6 k4] at hTl
          simp only [List.length_append, List.length_cons, List.length_nil] at hTl
          go_wp2_with fail
          refine (HI.out (.mk k1 n1 d1 s1 l1) (by omega) HRI.out _ _ HRP.out (by omega) (by omega)).mono ?_
          rintro e' w2 ⟨rfl, hb2⟩
          go_wp2_with fail
          go_ret
          refine ⟨?_, Below.next HB.out hb2⟩
          show Ending.returned (.string (_ ++ (⟨[32, 46, 32].toArray⟩ : ByteArray) ++ _ ++ (⟨[41].toArray⟩ : ByteArray))) = _
          rw [str_app, str_app, str_app, HF.out]
    · -- a Vec
      obtain rfl : s = ⟨#[]⟩ := he
      rw [Dat.text_vec] at hlen ⊢
      simp only [List.length_cons, List.length_append, List.length_nil] at hlen
      have HRP := Lib.hid (show ∀ y ∈ l, Dat.right y 0 = true ∧ Dat.all y ≤ N from fun y hy => ⟨Dat.right_part HR.out hy, by
        have := Dat.all_mem hy
        have h2 : Dat.all (.mk 7 0 0 ⟨#[]⟩ l) = 1 + Dat.allL l := rfl
        omega⟩)
      go_enter Tryz.func37, Tryz.ntmps37
      go_wp2_with fail
      go_loopg [3, 4] len (fun g t i wr => ∃ j : Nat, g = len - j ∧ j ≤ len ∧ i = .int .i64 j ∧ t = .string ⟨([35, 40] ++ Dat.textV (l.take j) true).toArray⟩ ∧ Uno w #[.int .i64 7, .int .i64 0, .int .i64 0, .string ⟨#[]⟩, .slice o len cap] 24 wr)
      case atStart => exact ⟨0, rfl, by omega, rfl, by simp [Dat.textV], HU.out⟩
      case round =>
        obtain ⟨j, rfl, hj, rfl, rfl, hu⟩ := hrel
        have HU2 := Lib.hid hu
        have hsz := hu.size
        have p4 := hu.cell 4 (v := .slice o len cap) rfl
        clear hu
        by_cases hjl : j < len
        · obtain ⟨x, hx⟩ : ∃ x, l[j]? = some x := ⟨_, List.getElem?_eq_getElem (by rw [← HL.out]; exact hjl)⟩
          obtain ⟨b1, off1, k1, n1, d1, s1, l1, o1, len1, cap1, ho1, hx1, e0, e1, e2, e3, e4, er⟩ := part_at2 HC.out (HU2.out.below.mono hB) hx
          subst ho1
          have hle := Dat.textV_le l (j + 1)
          rw [Dat.textV_step hx] at hle
          simp only [List.length_append] at hle
          have HST := Lib.hid (Dat.textV_step hx)
          have HXR := Lib.hid (HRP.out x (List.mem_of_getElem? hx))
          have HX1 := Lib.hid hx1
          have ER := Lib.hid er
          clear hx er hx1
          have hC := fun W (h : RepD W B x (.agg #[.int .i64 k1, .int .i64 n1, .int .i64 d1, .string s1, .slice o1 len1 cap1])) (h2 : B ≤ W.heap.size) => HI.out x HXR.out.2 HXR.out.1 _ W h h2 (by omega)
          have HCC := Lib.hid (hC wr (by rw [HX1.out]; exact ER.out) (by omega))
          clear hC
          obtain ⟨S, hS⟩ : ∃ S, [35, 40] ++ Dat.textV (l.take j) true = S := ⟨_, rfl⟩
          obtain ⟨T, hTx⟩ : ∃ T, Dat.text x false = T := ⟨_, rfl⟩
          have hSl : S.length = 2 + (Dat.textV (l.take j) true).length := by rw [← hS]; simp; omega
          rw [hTx] at hle
          rw [hS]
          have HSS := Lib.hid hS
          have HTX := Lib.hid hTx
          have HCC2 := Lib.hid (by have := HCC.out; rw [hTx] at this; exact this)
          clear hS hTx HCC
          by_cases h0 : j = 0
          · subst h0
            rw [if_pos rfl, List.length_nil] at hle
            have hst : S.length + T.length ≤ 140737488355328 := by omega
            clear hSl hle
            simp only [Nat.zero_mul, Nat.add_zero] at e0 e1 e2 e3 e4
            go_wp2_with (first | (go_at_call 37; refine HCC2.out.mono ?_; rintro e2 w2 ⟨rfl, hb2⟩) | fail)
            go_roundg (len - (0 + 1))
            case measure => omega
            case rel =>
              refine ⟨0 + 1, rfl, by omega, by go_num, ?_, HU2.out.next hb2⟩
              rw [HST.out, HTX.out]
              simp only [if_true, List.nil_append]
              rw [← List.append_assoc, HSS.out]
              show Value.string (_ ++ _) = _
              rw [str_app]
          · have h01 : decide ((0 : Int) < (j : Int)) = true := decide_eq_true (by omega)
            have h02 : decide (0 < j) = true := decide_eq_true (by omega)
            rw [if_neg h0] at hle
            simp only [List.length_cons, List.length_nil] at hle
            go_wp2_with (first | (go_at_call 37; refine HCC2.out.mono ?_; rintro e2 w2 ⟨rfl, hb2⟩) | fail)
            go_roundg (len - (j + 1))
            case measure => omega
            case rel =>
              refine ⟨j + 1, rfl, by omega, by go_num, ?_, HU2.out.next hb2⟩
              rw [HST.out, HTX.out, if_neg h0, ← List.append_assoc, ← List.append_assoc, HSS.out]
              show Value.string (_ ++ (⟨[32].toArray⟩ : ByteArray) ++ _) = _
              rw [str_app, str_app]
        · have HF := Lib.hid (show [35, 40] ++ Dat.textV (l.take j) true ++ [41] = [35, 40] ++ (Dat.textV l true ++ [41]) by
            rw [List.take_of_length_le (by rw [← HL.out]; omega)]; simp)
          have hle := Dat.textV_le l j
          obtain ⟨S, hS⟩ : ∃ S, [35, 40] ++ Dat.textV (l.take j) true = S := ⟨_, rfl⟩
          have hSl : S.length = 2 + (Dat.textV (l.take j) true).length := by rw [← hS]; simp; omega
          rw [hS] at HF
          rw [hS]
          clear hS
          go_wp2_with fail
          go_ret
          refine ⟨?_, HU2.out.below⟩
          show Ending.returned (.string (_ ++ (⟨[41].toArray⟩ : ByteArray))) = _
          rw [str_app]
          exact congrArg (fun z : List UInt8 => Ending.returned (.string ⟨z.toArray⟩)) HF.out

set_option maxRecDepth 100000 in
/-- The whole text: of a right datum. -/
theorem rText_any (x : Dat) (v : Value) (B : Nat) (w : World) (hv : RepD w B x v) (hB : B ≤ w.heap.size) (hl : Dat.right x 0 = true → (Dat.text x false).length ≤ 140737488355328) :
    Calls Tryz.prog 18 #[v] w fun e w' => e = .returned (.string ⟨(Dat.full x).toArray⟩) ∧ Below w.heap.size w w' := by
  obtain ⟨k, n, d, s, o, len, cap, rfl⟩ := agg_of hv
  have HV := Lib.hid hv
  have HBB := Lib.hid hB
  have HU := Lib.hid (Uno.refl w #[.int .i64 k, .int .i64 n, .int .i64 d, .string s, .slice o len cap] 24)
  have hs0 := HU.out.size
  clear hv
  cases hr : Dat.right x 0 with
  | false =>
    have HR := Lib.hid hr
    rw [show Dat.full x = [] by unfold Dat.full; rw [hr]; rfl]
    go_enter Tryz.func18, Tryz.ntmps18
    go_wp2_with fail
    refine (rRight_to x _ B _ false HR.out (HV.out.kept (HU.out.below.mono HBB.out)) (by omega)).mono ?_
    rintro e' w1 ⟨rfl, hb1⟩
    go_wp2_with fail
    go_ret
    exact ⟨rfl, (HU.out.next hb1).below⟩
  | true =>
    have HR := Lib.hid hr
    have HLn := Lib.hid (hl hr)
    rw [show Dat.full x = Dat.text x false by unfold Dat.full; rw [hr]; rfl]
    go_enter Tryz.func18, Tryz.ntmps18
    go_wp2_with fail
    refine (rRight_to x _ B _ true HR.out (HV.out.kept (HU.out.below.mono HBB.out)) (by omega)).mono ?_
    rintro e' w1 ⟨rfl, hb1⟩
    have HU1 := Lib.hid (HU.out.next hb1)
    have hs1 := HU1.out.size
    have p0 := HU1.out.cell 0 (v := .int .i64 k) rfl
    have p1 := HU1.out.cell 1 (v := .int .i64 n) rfl
    have p2 := HU1.out.cell 2 (v := .int .i64 d) rfl
    have p3 := HU1.out.cell 3 (v := .string s) rfl
    have p4 := HU1.out.cell 4 (v := .slice o len cap) rfl
    go_wp2_with fail
    refine (rwrite_all B _ x (Nat.le_refl _) HR.out _ _ (HV.out.kept (HU1.out.below.mono HBB.out)) (by omega) HLn.out).mono ?_
    rintro e' w2 ⟨rfl, hb2⟩
    go_wp2_with fail
    go_ret
    exact ⟨rfl, (HU1.out.next hb2).below⟩
end Go.Proofs.YtlpkpkcfgchngaaGreatDoor

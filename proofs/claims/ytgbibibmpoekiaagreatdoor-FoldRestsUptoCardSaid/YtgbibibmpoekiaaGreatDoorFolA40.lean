/-
  What the proofs lean on: FlA, FlB, FlC.
-/
import Derived.BigQuiet
import Derived.Test.YtgbibibmpoekiaaGreatDoorFolA12
import Derived.Test.YtgbibibmpoekiaaGreatDoorFolA14
import Derived.Test.YtgbibibmpoekiaaGreatDoorFolA16
import Derived.Test.YtgbibibmpoekiaaGreatDoorFolA39
set_option maxRecDepth 100000
set_option maxHeartbeats 16000000
namespace Go.Proofs.YtgbibibmpoekiaaGreatDoor
section
open Go Go.RowKit
def Fd.fewB (cs : List Dat) (x : Trm) (n : Int) : Bool := decide ((x.all : Int) ≤ n) && (decide (cs.length ≤ 100) && decide ((Dat.allL cs : Int) ≤ 1000))
theorem few11_any (cs : List Dat) (x : Trm) (cc c0 c1 c2 c3 : Value) (n : Int) (B : Nat) (w : World) (hcon : RepS w B cs cc) (hbody : TrmR w B x [c0, c1, c2, c3]) (hB : B ≤ w.heap.size) (h0 : 0 ≤ n) (h1 : n ≤ 1000) (r : Bool) (hr : Fd.fewB cs x n = r) :
  Calls Tryz.prog 9 #[.agg #[cc, c0, c1, c2, c3], .int .i64 n] w fun e w' => e = .returned (.bool r) ∧ Below w.heap.size w w' := by
 obtain ⟨q, r', u, q', r'', u', rfl, rfl, rfl, rfl⟩ := hbody.shape2
 obtain ⟨oc, lc, kc, rfl⟩ : ∃ o l c, cc = .slice o l c := by obtain ⟨o, l, c, h, _⟩ := hcon; exact ⟨o, l, c, h⟩
 have hlc : lc = cs.length := by
  obtain ⟨o, l, c, h, h2, _⟩ := hcon
  simp only [Value.slice.injEq] at h
  obtain ⟨rfl, rfl, rfl⟩ := h
  exact h2
 obtain ⟨W1, hW1⟩ : ∃ W1, w.alloc (.cells #[.slice oc lc kc, .int .i64 x.op, .int .i64 x.n, .slice q r' u, .slice q' r'' u'] 28) = W1 := ⟨_, rfl⟩
 have HB1 := Lib.hid (show Below w.heap.size w W1 from by rw [← hW1]; exact Below.one w _)
 have HX1 := Lib.hid (show BoxL W1 w.heap.size 28 [.slice oc lc kc, .int .i64 x.op, .int .i64 x.n, .slice q r' u, .slice q' r'' u'] from by rw [← hW1]; exact BoxL.new rfl _ _)
 obtain ⟨f1, hf1⟩ : ∃ f1, decide ((x.all : Int) ≤ n) = f1 := ⟨_, rfl⟩
 obtain ⟨f2, hf2⟩ : ∃ f2, decide ((Dat.allL cs : Int) ≤ 1000) = f2 := ⟨_, rfl⟩
 have HF := Lib.hid (tFew_any x _ _ _ _ n B W1 (TrmR.kept (HB1.out.mono hB) _ _ hbody) (Nat.le_trans hB HB1.out.size) h0 (by omega))
 rw [hf1] at HF
 have HA := Lib.hid (fun W (hb : Below w.heap.size w W) => rfewAll_to cs (.slice oc lc kc) 1000 B W (hcon.kept (hb.mono hB)) (Nat.le_trans hB hb.size) (by omega) (by omega) f2 hf2)
 have HR := Lib.hid (show (f1 && (decide ((lc : Int) ≤ 100) && f2)) = r from by
  rw [← hr, Fd.fewB, hf1, hf2, ← hlc]
  congr 2
  rw [decide_eq_decide]
  omega)
 have HW := Lib.hid hW1
 clear hcon hbody hlc hf1 hf2 hr hW1
 go_enter Tryz.func9, Tryz.ntmps9
 go_upto_region 1 with fail
 rw [HW.out]
 clear HW
 have x0 := HX1.out.cell 0 rfl
 have x1 := HX1.out.cell 1 rfl
 have x2 := HX1.out.cell 2 rfl
 have x3 := HX1.out.cell 3 rfl
 have x4 := HX1.out.cell 4 rfl
 have xl := HX1.out.lt
 go_wp2_with fail
 refine HF.out.mono ?_
 rintro e W2 ⟨rfl, hb2⟩
 have HB2 := Lib.hid (HB1.out.trans (hb2.mono HB1.out.size))
 have HX2 := Lib.hid (HX1.out.keep hb2)
 clear hb2 HF HX1 HB1 x0 x1 x2 x3 x4 xl
 have x0 := HX2.out.cell 0 rfl
 have xl := HX2.out.lt
 cases f1 with
 | false =>
  obtain rfl : false = r := HR.out
  go_wp2_with fail
  go_ret
  exact ⟨rfl, HB2.out⟩
 | true =>
  by_cases h100 : (lc : Int) ≤ 100
  ·have d1 : decide ((lc : Int) ≤ 100) = true := decide_eq_true h100
   obtain rfl : f2 = r := by have := HR.out; rw [d1] at this; simpa using this
   have HA2 := Lib.hid (HA.out W2 HB2.out)
   clear HA HR
   go_wp2_with fail
   refine HA2.out.mono ?_
   rintro e W3 ⟨rfl, hb3⟩
   have HB3 := Lib.hid (HB2.out.trans (hb3.mono HB2.out.size))
   clear hb3 HA2 x0 xl
   go_wp2_with fail
   go_ret
   exact ⟨rfl, HB3.out⟩
  ·have d1 : decide ((lc : Int) ≤ 100) = false := decide_eq_false h100
   obtain rfl : false = r := by have := HR.out; rw [d1] at this; simpa using this
   go_wp2_with fail
   go_ret
   exact ⟨rfl, HB2.out⟩
theorem lone_step {t : List Trm} {j : Nat} {y : Trm} (h : t[j]? = some y) : Fd.loneL (t.take (j + 1)) = (Fd.loneL (t.take j) || Fd.lone y) := by
 rw [List.take_add_one, h, Fd.loneL_app]
 simp [Fd.loneL]
theorem single_any (x : Trm) : ∀ (c0 c1 c2 c3 : Value) (B : Nat) (w : World), TrmR w B x [c0, c1, c2, c3] → B ≤ w.heap.size →
  Calls Tryz.prog 21 #[.agg #[c0, c1, c2, c3]] w fun e w' => e = .returned (.bool (Fd.lone x)) ∧ Below w.heap.size w w' := by
 induction x using Trm.ind with
 | _ o n v t ih =>
  intro c0 c1 c2 c3 B w hv hB
  obtain ⟨vs, q, len, cap, rfl, rfl, rfl, rfl, hs, hvv, hlen, hmx⟩ := trm_boxed hv
  obtain ⟨ov, lv, cv, rfl⟩ := hvv.form
  obtain ⟨W1, hW1⟩ : ∃ W1, w.alloc (.cells #[.int .i64 o, .int .i64 n, .slice ov lv cv, .slice q len cap] 26) = W1 := ⟨_, rfl⟩
  have HB1 := Lib.hid (show Below w.heap.size w W1 from by rw [← hW1]; exact Below.one w _)
  have HX1 := Lib.hid (show BoxL W1 w.heap.size 26 [.int .i64 o, .int .i64 n, .slice ov lv cv, .slice q len cap] from by rw [← hW1]; exact BoxL.new rfl _ _)
  have IH := Lib.hid ih
  have HS := Lib.hid hs
  have HL := Lib.hid hlen
  have HW := Lib.hid hW1
  obtain ⟨f0, hf0⟩ : ∃ f0, (o == 6 && ((len : Int) == 1)) = f0 := ⟨_, rfl⟩
  obtain ⟨r, hr⟩ : ∃ r, Fd.lone (.mk o n v t) = r := ⟨_, rfl⟩
  have HR := Lib.hid (show (f0 || Fd.loneL t) = r from by
   rw [← hr, Fd.lone, ← hf0, ← hlen]
   congr 2
   rw [Bool.eq_iff_iff]
   simp
   omega)
  rw [hr]
  clear hr
  clear ih hv hs hlen hW1 hvv
  go_enter Tryz.func21, Tryz.ntmps21
  go_upto_region 1 with fail
  rw [HW.out]
  clear HW
  go_cut [12] (fun c wx => c = .bool f0 ∧ W1 = wx)
  case first => as_aux_lemma =>
   have x0 := HX1.out.cell 0 rfl
   have x3 := HX1.out.cell 3 rfl
   have xl := HX1.out.lt
   by_cases h6 : o = 6
   ·subst h6
    have hf0 : ((len : Int) == 1) = f0 := by simpa using hf0
    go_wp2_with fail
    go_meet
    exact ⟨by rw [← hf0], rfl⟩
   ·have h6b : (o == 6) = false := by simpa using h6
    obtain rfl : false = f0 := by rw [← hf0, h6b]; rfl
    go_wp2_with fail
    go_meet
    exact ⟨rfl, rfl⟩
  case rest =>
   obtain ⟨rfl, rfl⟩ := hcut
   clear hf0
   cases f0 with
   | true =>
    obtain rfl : true = r := HR.out
    go_wp2_with fail
    go_ret
    exact ⟨rfl, HB1.out⟩
   | false =>
    go_wp2_with fail
    go_loopg [3] len (fun g i wr => ∃ (j : Nat), g = len - j ∧ i = .int .i64 j ∧ j ≤ len ∧ Hid (Fd.loneL (t.take j) = false) ∧ Hid (Below W1.heap.size W1 wr))
    case atStart => exact ⟨0, rfl, rfl, by omega, Lib.hid rfl, Lib.hid (Below.refl _ _)⟩
    case round =>
     obtain ⟨j, rfl, rfl, hj, HF, HBR⟩ := hrel
     have HXR := Lib.hid (HX1.out.keep HBR.out)
     have HBW := Lib.hid (HB1.out.trans (HBR.out.mono HB1.out.size))
     have b3 := HXR.out.cell 3 rfl
     have bl := HXR.out.lt
     by_cases hjl : j < len
     ·obtain ⟨x, hx⟩ : ∃ x, t[j]? = some x := ⟨_, List.getElem?_eq_getElem (by rw [← HL.out]; exact hjl)⟩
      obtain ⟨b, off, cs, ho, _, hcl, hcell, hir⟩ := SlC.at HS.out (HBW.out.mono hB) hx
      subst ho
      match cs, hcl with
      | [d0, d1, d2, d3], _ =>
       have e0 := hcell 0 _ rfl
       have e1 := hcell 1 _ rfl
       have e2 := hcell 2 _ rfl
       have e3 := hcell 3 _ rfl
       simp only [Nat.add_zero] at e0
       have HCC := Lib.hid (IH.out x (List.mem_of_getElem? hx) d0 d1 d2 d3 B wr (TrmR.kept (HBW.out.mono hB) _ _ hir) (by have := HBW.out.size; omega))
       have HST := Lib.hid (lone_step hx)
       have HAN := Lib.hid (show Fd.lone x = true → true = r from fun h => by
        rw [← HR.out, Bool.false_or]
        cases hl : Fd.loneL t with
        | true => rfl
        | false => have := Fd.loneL_iff.1 hl x (List.mem_of_getElem? hx); rw [h] at this; cases this)
       obtain ⟨y, hy⟩ : ∃ y, Fd.lone x = y := ⟨_, rfl⟩
       rw [hy] at HCC HST HAN
       clear hx hir hcell hy
       go_wp2_with fail
       with_reducible refine HCC.out.mono ?_
       rintro e w1 ⟨rfl, hb1⟩
       have HBN := Lib.hid (HBR.out.trans (hb1.mono HBR.out.size))
       clear hb1 HCC b3 bl e0 e1 e2 e3
       cases y with
       | true =>
        obtain rfl : true = r := HAN.out rfl
        go_wp2_with fail
        go_ret
        exact ⟨rfl, HB1.out.trans (HBN.out.mono HB1.out.size)⟩
       | false =>
        go_wp2_with fail
        go_roundg (len - (j + 1))
        case measure => omega
        case rel => exact ⟨j + 1, rfl, by go_num, by omega, Lib.hid (by rw [HST.out, HF.out]; rfl), HBN⟩
     ·obtain rfl : false = r := by
       rw [← HR.out, Bool.false_or, ← HF.out, List.take_of_length_le (by rw [← HL.out]; omega)]
      go_wp2_with fail
      go_ret
      exact ⟨rfl, HBW.out⟩
end
section
open Go Go.RowKit
theorem rconsts_any (l m : List Dat) (v u : Value) (B : Nat) (w : World) (hv : RepS w B l v) (hu : RepS w B m u) (hB : B ≤ w.heap.size) (r : Bool) (hr : all2 Dat.alike l m = r) :
  Calls Tryz.prog 20 #[v, u] w fun e w' => e = .returned (.bool r) ∧ Below w.heap.size w w' := by
 obtain ⟨o, len, cap, rfl, hl, hcap, hmax, hc⟩ := hv
 obtain ⟨o', len', cap', rfl, hl', hcap', hmax', hc'⟩ := hu
 have HL := Lib.hid hl
 have HL' := Lib.hid hl'
 have HC := Lib.hid hc
 have HC' := Lib.hid hc'
 have HR := Lib.hid hr
 clear hl hl' hc hc' hr
 by_cases hlen : len = len'
 ·subst hlen
  go_enter Tryz.func20, Tryz.ntmps20
  go_wp2_with fail
  go_loopg [5] len (fun g i wr => ∃ j : Nat, g = len - j ∧ j ≤ len ∧ i = .int .i64 j ∧ Hid (∀ (q : Nat) (x y : Dat), q < j → l[q]? = some x → m[q]? = some y → Dat.alike x y = true) ∧ Hid (Below w.heap.size w wr))
  case atStart => exact ⟨0, rfl, by omega, rfl, Lib.hid fun q x y h => absurd h (by omega), Lib.hid (Below.refl _ _)⟩
  case round =>
   obtain ⟨j, rfl, hj, rfl, HQ2, HB⟩ := hrel
   have hsz := HB.out.size
   by_cases hjl : j < len
   ·obtain ⟨x, hx⟩ : ∃ x, l[j]? = some x := ⟨_, List.getElem?_eq_getElem (by rw [← HL.out]; exact hjl)⟩
    obtain ⟨y, hy⟩ : ∃ y, m[j]? = some y := ⟨_, List.getElem?_eq_getElem (by rw [← HL'.out]; exact hjl)⟩
    obtain ⟨b1, off1, k1, n1, d1, s1, l1, o1, len1, cap1, ho1, hx1, e0, e1, e2, e3, e4, er⟩ := part_at2 HC.out (HB.out.mono hB) hx
    obtain ⟨b2, off2, k2, n2, d2, s2, l2, o2, len2, cap2, ho2, hx2, f0, f1, f2, f3, f4, fr⟩ := part_at2 HC'.out (HB.out.mono hB) hy
    subst ho1 ho2 hx1 hx2
    have ER := Lib.hid er
    have FR := Lib.hid fr
    have HX := Lib.hid hx
    have HY := Lib.hid hy
    have hl1 := cell_lt e0
    have hl2 := cell_lt f0
    obtain ⟨q, hq⟩ : ∃ q, Dat.alike (.mk k1 n1 d1 s1 l1) (.mk k2 n2 d2 s2 l2) = q := ⟨_, rfl⟩
    have HQQ := Lib.hid hq
    have HD := Lib.hid ((Below.refl wr.heap.size wr).drew)
    clear hx hy er fr hq
    go_upto_region 6 with fail
    refine wp_region_quiet_all (Below wr.heap.size wr) (by kernel_rfl) (by kernel_rfl) HD.out ?_
    intro T _ W HW HW2
    have g0 : ∀ t, (W t).cell? _ = _ := fun t => ((HW t).cell (p := ⟨b1, off1 + j * 5, none⟩) hl1).trans e0
    have g1 : ∀ t, (W t).cell? _ = _ := fun t => ((HW t).cell (p := ⟨b1, off1 + j * 5 + 1, none⟩) hl1).trans e1
    have g2 : ∀ t, (W t).cell? _ = _ := fun t => ((HW t).cell (p := ⟨b1, off1 + j * 5 + 2, none⟩) hl1).trans e2
    have g3 : ∀ t, (W t).cell? _ = _ := fun t => ((HW t).cell (p := ⟨b1, off1 + j * 5 + 3, none⟩) hl1).trans e3
    have g5 : ∀ t, (W t).cell? _ = _ := fun t => ((HW t).cell (p := ⟨b1, off1 + j * 5 + 4, none⟩) hl1).trans e4
    have j0 : ∀ t, (W t).cell? _ = _ := fun t => ((HW t).cell (p := ⟨b2, off2 + j * 5, none⟩) hl2).trans f0
    have j1 : ∀ t, (W t).cell? _ = _ := fun t => ((HW t).cell (p := ⟨b2, off2 + j * 5 + 1, none⟩) hl2).trans f1
    have j2 : ∀ t, (W t).cell? _ = _ := fun t => ((HW t).cell (p := ⟨b2, off2 + j * 5 + 2, none⟩) hl2).trans f2
    have j3 : ∀ t, (W t).cell? _ = _ := fun t => ((HW t).cell (p := ⟨b2, off2 + j * 5 + 3, none⟩) hl2).trans f3
    have j5 : ∀ t, (W t).cell? _ = _ := fun t => ((HW t).cell (p := ⟨b2, off2 + j * 5 + 4, none⟩) hl2).trans f4
    have HCC := Lib.hid (fun t => show Calls Tryz.prog 32 #[.agg #[.int .i64 k1, .int .i64 n1, .int .i64 d1, .string s1, .slice o1 len1 cap1], .agg #[.int .i64 k2, .int .i64 n2, .int .i64 d2, .string s2, .slice o2 len2 cap2]] (W t) fun e w' => e = .returned (.bool q) ∧ Below (W t).heap.size (W t) w' from by
     rw [← HQQ.out]
     exact ralike_any _ _ _ _ B (W t) (ER.out.kept ((HW t).mono (by omega))) (FR.out.kept ((HW t).mono (by omega))) (by have := (HW t).size; omega))
    have HWH := Lib.hid HW
    have HWW := Lib.hid HW2
    clear HW HW2 e0 e1 e2 e3 e4 f0 f1 f2 f3 f4
    repeat (go_big_quiet_step (first | (go_at_call 32; refine (HCC.out _).mono ?_; rintro e1 w1 ⟨rfl, hb⟩; exact ⟨rfl, HWW.out _ (Below.next (HWH.out _) hb)⟩) | fail))
    refine wpQuiet_nil ?_
    intro t
    have HBT := Lib.hid (HB.out.trans ((HWH.out t).mono HB.out.size))
    clear g0 g1 g2 g3 g5 j0 j1 j2 j3 j5 HCC HWW HWH
    cases q with
    | true =>
     go_wp2_with fail
     go_roundg (len - (j + 1))
     case measure => omega
     case rel =>
      refine ⟨j + 1, rfl, by omega, by go_num, Lib.hid ?_, HBT⟩
      intro p x y hp hx hy
      by_cases hpj : p < j
      ·exact HQ2.out p x y hpj hx hy
      ·obtain rfl : p = j := by omega
       obtain rfl := Option.some.inj (hx.symm.trans HX.out)
       obtain rfl := Option.some.inj (hy.symm.trans HY.out)
       exact HQQ.out
    | false =>
     obtain rfl : false = r := by rw [← HR.out]; exact (all2_false HX.out HY.out HQQ.out).symm
     go_wp2_with fail
     go_ret
     exact ⟨rfl, HBT.out⟩
   ·obtain rfl : j = len := by omega
    have HF := Lib.hid (show true = r by
     rw [← HR.out]
     refine (all2_all (by rw [← HL.out, ← HL'.out]) fun i x y hx hy => HQ2.out i x y ?_ hx hy).symm
     have := (List.getElem?_eq_some_iff.1 hx).1
     rw [HL.out]; exact this)
    obtain rfl := HF.out
    go_wp2_with fail
    go_ret
    exact ⟨rfl, HB.out⟩
 ·have HF := Lib.hid (show false = r from by
   rw [← HR.out]
   cases h : all2 Dat.alike l m with
   | false => rfl
   | true => exact absurd (all2_len h) (by rw [← HL.out, ← HL'.out]; exact hlen))
  obtain rfl := HF.out
  have hne : ((len : Int) == (len' : Int)) = false := by
   rw [beq_eq_false_iff_ne]; intro e; exact hlen (by omega)
  go_enter Tryz.func20, Tryz.ntmps20
  go_wp2_with fail
  go_ret
  exact ⟨rfl, Below.refl _ _⟩
end
section
open Go Go.RowKit
theorem slC_of_boxT {w : World} {b n : Nat} {te : TypeId} {l : List Trm} {cs : List Value} (hb : BoxL w b te cs) (hc : CellsG 4 (TrmR w w.heap.size) l cs) (hn : n = l.length) (hm : n ≤ 1000000) : SlC w w.heap.size 4 (TrmR w w.heap.size) l (.slice (some ⟨b, 0, none⟩) n n) := by
 refine ⟨_, n, n, rfl, hn, Nat.le_refl _, by omega, fun _ => ⟨rfl, hb.lt⟩, fun i x hx => ?_⟩
 obtain ⟨cs', h1, h2, h3⟩ := hc.at hx
 exact ⟨cs', h1, fun j u hj => by have := h3 j u hj; simpa using hb.cell _ this, h2⟩
def Fd.awX : Trm := .mk 10 0 [] [.mk 0 0 [] [], .mk 0 0 [] []]
theorem Fd.awConv : Fd.conv [Prims.num 2 1] Fd.awX = some (.mk 0 1 [] [], [Prims.num 2 1, Prims.num 4 1]) := by kernel_rfl
theorem awake11_any (w : World) (hE : Env w) : Calls Tryz.prog 8 #[] w fun e w' => e = .returned (.bool true) ∧ Below w.heap.size w w' := by
 obtain ⟨W3, hW3⟩ : ∃ W3, ((w.alloc (.cells #[.int .i64 0, .int .i64 2, .int .i64 1, .string ⟨#[]⟩, .slice none 0 0] 45)).alloc (.cells #[.int .i64 0, .int .i64 0, .slice none 0 0, .slice none 0 0, .int .i64 0, .int .i64 0, .slice none 0 0, .slice none 0 0] 26)).alloc (.cells #[.slice (some ⟨w.heap.size, 0, none⟩) 1 1, .int .i64 10, .int .i64 0, .slice none 0 0, .slice (some ⟨w.heap.size + 1, 0, none⟩) 2 2] 28) = W3 := ⟨_, rfl⟩
 have HB3 := Lib.hid (show Below w.heap.size w W3 from by rw [← hW3]; exact ((Below.one w _).trans ((Below.one _ _).mono (by simp))).trans ((Below.one _ _).mono (by simp; omega)))
 have HX3 := Lib.hid (show BoxL W3 (w.heap.size + 1 + 1) 28 [.slice (some ⟨w.heap.size, 0, none⟩) 1 1, .int .i64 10, .int .i64 0, .slice none 0 0, .slice (some ⟨w.heap.size + 1, 0, none⟩) 2 2] from by rw [← hW3]; exact BoxL.new (by simp) _ _)
 have HC := Lib.hid (show Calls Tryz.prog 10 #[.agg #[.slice (some ⟨w.heap.size, 0, none⟩) 1 1, .int .i64 10, .int .i64 0, .slice none 0 0, .slice (some ⟨w.heap.size + 1, 0, none⟩) 2 2]] W3 (CvPost (some (.mk 0 1 [] [], [Prims.num 2 1, Prims.num 4 1])) W3) from by
  rw [← Fd.awConv]
  have hbT : BoxL W3 (w.heap.size + 1) 26 [.int .i64 0, .int .i64 0, .slice none 0 0, .slice none 0 0, .int .i64 0, .int .i64 0, .slice none 0 0, .slice none 0 0] := by
   rw [← hW3]; exact (BoxL.new (by simp) _ _).alloc _
  have hz : ∀ B, TrmR W3 B (.mk 0 0 [] []) [.int .i64 0, .int .i64 0, .slice none 0 0, .slice none 0 0] := fun B => trmR_iff.2 ⟨_, _, rfl, ⟨by omega, by omega⟩, ⟨by omega, by omega⟩, ⟨none, 0, 0, rfl, rfl, by omega, by omega, rfl, rfl⟩, ⟨none, 0, 0, rfl, rfl, by omega, by omega, rfl, rfl⟩⟩
  refine fconvert_any [Prims.num 2 1] Fd.awX _ _ _ _ _ W3.heap.size W3 ?_ ?_ (Nat.le_refl _) (env_kept hE HB3.out) (by decide +kernel) (fun _ => by decide +kernel) (fun _ d hd => ?_)
  ·have h1 : RepD (hide w (fun _ => False)) w.heap.size (Prims.num 2 1) (.agg #[.int .i64 0, .int .i64 2, .int .i64 1, .string ⟨#[]⟩, .slice none 0 0]) := rep_leaf 0 2 1 ⟨#[]⟩ (by omega) (by omega) (by omega) (by decide)
   have h2 := (GrownS.one (S := fun _ => False) (fun _ h => h.elim) h1).rep.unhide
   have h3 : Below (w.heap.size + 1) (w.alloc (.cells #[.int .i64 0, .int .i64 2, .int .i64 1, .string ⟨#[]⟩, .slice none 0 0] 45)) W3 := by
    rw [← hW3]; exact ((Below.refl _ _).alloc (by simp) _).alloc (by simp) _
   rw [World.size_alloc] at h2
   exact (h2.kept h3).wider (by rw [← hW3]; simp)
  ·exact trmR_iff.2 ⟨_, _, rfl, ⟨by omega, by omega⟩, ⟨by omega, by omega⟩, ⟨none, 0, 0, rfl, rfl, by omega, by omega, rfl, rfl⟩, slC_of_boxT (n := 2) hbT (l := [.mk 0 0 [] [], .mk 0 0 [] []]) ⟨_, _, rfl, rfl, hz _, ⟨_, _, rfl, rfl, hz _, rfl⟩⟩ rfl (by omega)⟩
  ·rw [List.mem_singleton.1 hd]; decide +kernel)
 have HW := Lib.hid hW3
 clear hW3 hE
 go_enter Tryz.func8, Tryz.ntmps8
 go_upto_region 2 with fail
 rw [HW.out]
 clear HW
 have x0 := HX3.out.cell 0 rfl
 have x1 := HX3.out.cell 1 rfl
 have x2 := HX3.out.cell 2 rfl
 have x3 := HX3.out.cell 3 rfl
 have x4 := HX3.out.cell 4 rfl
 have xl := HX3.out.lt
 go_wp2_with fail
 refine HC.out.mono ?_
 rintro e W4 ⟨hb4, oc, lc, kc, o, n, ov, lv, cv, ot, lt, ct, rfl, hr, ht⟩
 have HB4 := Lib.hid (HB3.out.trans (hb4.mono HB3.out.size))
 obtain ⟨vs, ts, he, _, _, _, _⟩ := trmR_iff.1 ht
 simp only [List.cons.injEq, Value.int.injEq, true_and, and_true] at he
 have hn0 : o = 0 := he.1
 have hn1 : n = 1 := he.2.1
 subst hn0 hn1
 clear he
 obtain ⟨o2, l2, c2, he, hl2, hc2, _, hm⟩ := hr
 simp only [Value.slice.injEq] at he
 obtain ⟨rfl, rfl, rfl⟩ := he
 obtain ⟨b, off, k1, n1, d1, s1, l1, o1, len1, cap1, ho1, hx1, e0, e1, e2, e3, e4, er⟩ := part_at2 (j := 1) hm (Below.refl _ _) rfl
 subst ho1
 simp only [Prims.num, Dat.mk.injEq] at hx1
 obtain ⟨rfl, rfl, rfl, rfl, rfl⟩ := hx1
 obtain rfl : lc = 2 := hl2
 have el := cell_lt e1
 simp only [Nat.one_mul] at e1
 clear hb4 HC HX3 HB3 x0 x1 x2 x3 x4 xl hm er e0 e2 e3 e4 ht
 go_wp2_with fail
 go_ret
 exact ⟨rfl, HB4.out.trans ((Below.one W4 _).mono HB4.out.size)⟩
end
end Go.Proofs.YtgbibibmpoekiaaGreatDoor

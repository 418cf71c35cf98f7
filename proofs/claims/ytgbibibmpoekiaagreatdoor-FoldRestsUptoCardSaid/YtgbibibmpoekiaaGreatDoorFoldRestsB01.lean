/-
  What the proofs lean on: FdF, FlD, FlR.
-/
import Derived.Test.YtgbibibmpoekiaaGreatDoorFolA26
import Derived.Test.YtgbibibmpoekiaaGreatDoorFolA40
set_option maxRecDepth 100000
set_option maxHeartbeats 16000000
namespace Go.Proofs.YtgbibibmpoekiaaGreatDoor
section
open Go Go.RowKit
namespace Fd
open Trm
theorem prim_bulk {M : Nat} (hM : 1 ≤ M) (n : Int) (l : List Trm) (cs : List Dat) (h : ∀ d ∈ cs, Dat.bulk d ≤ M) : ∀ d ∈ (prim foldF n l cs).2, Dat.bulk d ≤ M := by
 unfold prim
 split
 ·exact h
 ·rename_i data hd
  split
  ·exact h
  ·rename_i d hf
   intro y hy
   rcases List.mem_append.1 hy with hy | hy
   ·exact h y hy
   ·rw [List.mem_singleton.1 hy]
    exact foldF_bulk hM hf fun z hz => h z (dataOf_mem hd z hz)
theorem post_bulk {M : Nat} (hM : 1 ≤ M) (op n : Int) (v : List Int) (t : List Trm) (cs : List Dat) (h : ∀ d ∈ cs, Dat.bulk d ≤ M) : ∀ d ∈ (post foldF op n v t cs).2, Dat.bulk d ≤ M := by
 unfold post
 repeat' split
 all_goals first | exact h | exact prim_bulk hM _ _ _ h
theorem term_bulk {M : Nat} (hM : 1 ≤ M) : ∀ (x : Trm) (cs : List Dat), (∀ d ∈ cs, Dat.bulk d ≤ M) → ∀ d ∈ (term foldF x cs).2, Dat.bulk d ≤ M := by
 intro x
 induction x using Trm.ind with
 | h o n v t ih =>
  intro cs h
  have key : ∀ (l : List Trm) (cs : List Dat), (∀ y ∈ l, ∀ cs : List Dat, (∀ d ∈ cs, Dat.bulk d ≤ M) → ∀ d ∈ (term foldF y cs).2, Dat.bulk d ≤ M) → (∀ d ∈ cs, Dat.bulk d ≤ M) → ∀ d ∈ (termL foldF l cs).2, Dat.bulk d ≤ M := fun l => by
   induction l with
   | nil => intro cs _ h; exact h
   | cons y l ihl => intro cs hy h; rw [termL]; exact ihl _ (fun z hz => hy z (List.mem_cons_of_mem _ hz)) (hy y (by simp) cs h)
  rw [term]
  exact post_bulk hM _ _ _ _ _ (key t cs ih h)
structure Steps (x : Trm) (cs : List Dat) (k : Nat) : Prop where
 ok : okP (iter foldF k x cs).2 (iter foldF k x cs).1 = true
 all : (iter foldF k x cs).1.all ≤ x.all
 len : (iter foldF k x cs).2.length ≤ cs.length + k * x.all
 bulk : ∀ d ∈ (iter foldF k x cs).2, Dat.bulk d ≤ 1048576
theorem steps {x : Trm} {cs : List Dat} (h : okP cs x = true) (hb : ∀ d ∈ cs, Dat.bulk d ≤ 1048576) : ∀ k, Steps x cs k
 | 0 => ⟨h, Nat.le_refl _, by simp [iter], hb⟩
 | k + 1 => by
  obtain ⟨h1, h2, h3, h4⟩ := steps h hb k
  obtain ⟨g1, g2⟩ := iter_ok foldF_right h (k + 1)
  refine ⟨g1, g2, ?_, ?_⟩
  ·rw [iter, Nat.add_mul, Nat.one_mul]
   have := term_few foldF (iter foldF k x cs).1 (iter foldF k x cs).2
   omega
  ·rw [iter]
   exact term_bulk (by omega) _ _ h4
theorem rests {x : Trm} {cs : List Dat} (h : okP cs x = true) (hx : x.all ≤ 69) : iter foldF 72 x cs = iter foldF 71 x cs := by
 rcases iter_rests foldF_right h 70 with e | e
 ·exact e
 ·omega
end Fd
end
section
open Go Go.RowKit
theorem talike_self (x : Trm) : ∀ (c0 c1 c2 c3 d0 d1 d2 d3 : Value) (B : Nat) (w : World), TrmR w B x [c0, c1, c2, c3] → TrmR w B x [d0, d1, d2, d3] → B ≤ w.heap.size →
  Calls Tryz.prog 13 #[.agg #[c0, c1, c2, c3], .agg #[d0, d1, d2, d3]] w fun e w' => e = .returned (.bool true) ∧ Below w.heap.size w w' := by
 induction x using Trm.ind with
 | _ o n v t ih =>
  intro c0 c1 c2 c3 d0 d1 d2 d3 B w hv hu hB
  obtain ⟨vs, q, len, cap, rfl, rfl, rfl, rfl, hs, hvv, hlen, hmx⟩ := trm_boxed hv
  obtain ⟨vs', q', len', cap', rfl, rfl, rfl, rfl, hs', hvv', hlen', _⟩ := trm_boxed hu
  obtain ⟨ov, lv, cv, rfl⟩ := hvv.form
  obtain ⟨ov', lv', cv', rfl⟩ := hvv'.form
  obtain ⟨hlv, hlc, hlm⟩ := hvv.lens
  obtain rfl : len' = len := hlen'.trans hlen.symm
  obtain rfl : lv' = lv := hvv'.lens.1.trans hlv.symm
  obtain ⟨W2, hW2⟩ : ∃ W2, (w.alloc (.cells #[.int .i64 o, .int .i64 n, .slice ov lv' cv, .slice q len' cap] 26)).alloc (.cells #[.int .i64 o, .int .i64 n, .slice ov' lv' cv', .slice q' len' cap'] 26) = W2 := ⟨_, rfl⟩
  have HB2 := Lib.hid (show Below w.heap.size w W2 from by rw [← hW2]; exact (Below.one w _).trans ((Below.one _ _).mono (by simp)))
  have HX2 := Lib.hid (show BoxL W2 w.heap.size 26 [.int .i64 o, .int .i64 n, .slice ov lv' cv, .slice q len' cap] from by rw [← hW2]; exact (BoxL.new rfl _ _).alloc _)
  have HY2 := Lib.hid (show BoxL W2 (w.heap.size + 1) 26 [.int .i64 o, .int .i64 n, .slice ov' lv' cv', .slice q' len' cap'] from by rw [← hW2]; exact BoxL.new (by simp) _ _)
  have IH := Lib.hid ih
  have HS := Lib.hid hs
  have HS' := Lib.hid hs'
  have HV := Lib.hid hvv
  have HV' := Lib.hid hvv'
  have HL := Lib.hid hlen
  have HLV := Lib.hid hlv
  have HW := Lib.hid hW2
  clear ih hv hu hs hs' hvv hvv' hlen hlen' hlv hW2
  go_enter Tryz.func13, Tryz.ntmps13
  go_upto_region 1 with fail
  rw [HW.out]
  clear HW
  have x0 := HX2.out.cell 0 rfl
  have x1 := HX2.out.cell 1 rfl
  have x2 := HX2.out.cell 2 rfl
  have x3 := HX2.out.cell 3 rfl
  have xl := HX2.out.lt
  have y0 := HY2.out.cell 0 rfl
  have y1 := HY2.out.cell 1 rfl
  have y2 := HY2.out.cell 2 rfl
  have y3 := HY2.out.cell 3 rfl
  have yl := HY2.out.lt
  go_wp2_with fail
  clear x0 x1 x2 x3 xl y0 y1 y2 y3 yl
  go_loopg [5] lv' (fun g i wr => ∃ (j : Nat), g = lv' - j ∧ i = .int .i64 j ∧ j ≤ lv' ∧ Hid (Below W2.heap.size W2 wr))
  case atStart => exact ⟨0, rfl, rfl, by omega, Lib.hid (Below.refl _ _)⟩
  case round =>
   obtain ⟨j, rfl, rfl, hj, HBR⟩ := hrel
   have HXR := Lib.hid (HX2.out.keep HBR.out)
   have HYR := Lib.hid (HY2.out.keep HBR.out)
   have HBW := Lib.hid (HB2.out.trans (HBR.out.mono HB2.out.size))
   have x2 := HXR.out.cell 2 rfl
   have xl := HXR.out.lt
   have y2 := HYR.out.cell 2 rfl
   have yl := HYR.out.lt
   by_cases hjl : j < lv'
   ·obtain ⟨z, hz⟩ : ∃ z, v[j]? = some z := ⟨_, List.getElem?_eq_getElem (by rw [← HLV.out]; exact hjl)⟩
    obtain ⟨b1, o1, e1, ho1, _, _, h1, hi1, _⟩ := SlC.at HV.out (HBW.out.mono hB) hz
    obtain ⟨b2, o2, e2, ho2, _, _, h2, hi2, _⟩ := SlC.at HV'.out (HBW.out.mono hB) hz
    subst ho1 ho2 hi1 hi2
    have e1 := h1 0 _ rfl
    have e2 := h2 0 _ rfl
    simp only [Nat.add_zero, Nat.mul_one] at e1 e2
    have l1 := cell_lt e1
    have l2 := cell_lt e2
    clear h1 h2 hz
    go_upto_region 6 with fail
    have HD := Lib.hid ((Below.refl wr.heap.size wr).drew)
    refine wp_region_quiet_all (Below wr.heap.size wr) (by kernel_rfl) (by kernel_rfl) HD.out ?_
    intro T _ W HW HW2
    have X2 : ∀ t, (W t).cell? _ = _ := fun t => ((HW t).cell (p := ⟨w.heap.size, 2, none⟩) xl).trans x2
    have Y2 : ∀ t, (W t).cell? _ = _ := fun t => ((HW t).cell (p := ⟨w.heap.size + 1, 2, none⟩) yl).trans y2
    have E1 : ∀ t, (W t).cell? _ = _ := fun t => ((HW t).cell (p := ⟨b1, o1 + j, none⟩) l1).trans e1
    have E2 : ∀ t, (W t).cell? _ = _ := fun t => ((HW t).cell (p := ⟨b2, o2 + j, none⟩) l2).trans e2
    have HWH := Lib.hid HW
    clear HW HW2 e1 e2 x2 y2
    repeat (go_big_quiet_step (fail))
    refine wpQuiet_nil ?_
    intro t
    have HBT := Lib.hid (HBR.out.trans ((HWH.out t).mono HBR.out.size))
    clear X2 Y2 E1 E2 HWH
    go_wp2_with fail
    go_roundg (lv' - (j + 1))
    case measure => omega
    case rel => exact ⟨j + 1, rfl, by go_num, by omega, HBT⟩
   ·obtain rfl : j = lv' := by omega
    go_wp2_with fail
    clear x2 xl y2 yl
    obtain ⟨W3, rfl⟩ : ∃ W3, W3 = wr := ⟨_, rfl⟩
    have HB3 := Lib.hid (HB2.out.trans (HBR.out.mono HB2.out.size))
    go_loopg [6] len' (fun g i wx => ∃ (k : Nat), g = len' - k ∧ i = .int .i64 k ∧ k ≤ len' ∧ Hid (Below W3.heap.size W3 wx))
    case atStart => exact ⟨0, rfl, rfl, by omega, Lib.hid (Below.refl _ _)⟩
    case round =>
     obtain ⟨k, rfl, rfl, hk, HBS⟩ := hrel
     have HXS := Lib.hid (HXR.out.keep HBS.out)
     have HYS := Lib.hid (HYR.out.keep HBS.out)
     have HBX := Lib.hid (HB3.out.trans (HBS.out.mono HB3.out.size))
     have x3 := HXS.out.cell 3 rfl
     have xl := HXS.out.lt
     have y3 := HYS.out.cell 3 rfl
     have yl := HYS.out.lt
     by_cases hkl : k < len'
     ·obtain ⟨z, hz⟩ : ∃ z, t[k]? = some z := ⟨_, List.getElem?_eq_getElem (by rw [← HL.out]; exact hkl)⟩
      obtain ⟨b1, o1, e1, ho1, _, hl1, h1, hr1⟩ := SlC.at HS.out (HBX.out.mono hB) hz
      obtain ⟨b2, o2, e2, ho2, _, hl2, h2, hr2⟩ := SlC.at HS'.out (HBX.out.mono hB) hz
      subst ho1 ho2
      obtain ⟨p1, q1, r1, p2, q2, r2, rfl, _⟩ := trmR_form hr1
      obtain ⟨p3, q3, r3, p4, q4, r4, rfl, _⟩ := trmR_form hr2
      have a0 := h1 0 _ rfl
      have a1 := h1 1 _ rfl
      have a2 := h1 2 _ rfl
      have a3 := h1 3 _ rfl
      have b0 := h2 0 _ rfl
      have b1' := h2 1 _ rfl
      have b2' := h2 2 _ rfl
      have b3 := h2 3 _ rfl
      simp only [Nat.add_zero] at a0 b0
      have l1 := cell_lt a0
      have l2 := cell_lt b0
      have HCC := Lib.hid (fun W (hb : Below wr.heap.size wr W) => IH.out z (List.mem_of_getElem? hz) _ _ _ _ _ _ _ _ B W (TrmR.kept ((HBX.out.trans (hb.mono HBX.out.size)).mono hB) _ _ hr1) (TrmR.kept ((HBX.out.trans (hb.mono HBX.out.size)).mono hB) _ _ hr2) (by have := HBX.out.size; have := hb.size; omega))
      clear h1 h2 hz hr1 hr2 hl1 hl2
      go_upto_region 11 with fail
      have HD := Lib.hid ((Below.refl wr.heap.size wr).drew)
      refine wp_region_quiet_all (Below wr.heap.size wr) (by kernel_rfl) (by kernel_rfl) HD.out ?_
      intro T _ W HW HW2
      have X3 : ∀ t, (W t).cell? _ = _ := fun t => ((HW t).cell (p := ⟨w.heap.size, 3, none⟩) xl).trans x3
      have Y3 : ∀ t, (W t).cell? _ = _ := fun t => ((HW t).cell (p := ⟨w.heap.size + 1, 3, none⟩) yl).trans y3
      have A0 : ∀ t, (W t).cell? _ = _ := fun t => ((HW t).cell (p := ⟨b1, _, none⟩) l1).trans a0
      have A1 : ∀ t, (W t).cell? _ = _ := fun t => ((HW t).cell (p := ⟨b1, _, none⟩) l1).trans a1
      have A2 : ∀ t, (W t).cell? _ = _ := fun t => ((HW t).cell (p := ⟨b1, _, none⟩) l1).trans a2
      have A3 : ∀ t, (W t).cell? _ = _ := fun t => ((HW t).cell (p := ⟨b1, _, none⟩) l1).trans a3
      have B0 : ∀ t, (W t).cell? _ = _ := fun t => ((HW t).cell (p := ⟨b2, _, none⟩) l2).trans b0
      have B1 : ∀ t, (W t).cell? _ = _ := fun t => ((HW t).cell (p := ⟨b2, _, none⟩) l2).trans b1'
      have B2 : ∀ t, (W t).cell? _ = _ := fun t => ((HW t).cell (p := ⟨b2, _, none⟩) l2).trans b2'
      have B3 : ∀ t, (W t).cell? _ = _ := fun t => ((HW t).cell (p := ⟨b2, _, none⟩) l2).trans b3
      have HWH := Lib.hid HW
      have HWW := Lib.hid HW2
      clear HW HW2 x3 y3 a0 a1 a2 a3 b0 b1' b2' b3
      repeat (go_big_quiet_step (first | (go_at_call 13; (with_reducible refine (HCC.out _ (HWH.out _)).mono ?_); rintro e1 w1 ⟨rfl, hb⟩; exact ⟨rfl, HWW.out _ (Below.next (HWH.out _) hb)⟩) | fail))
      refine wpQuiet_nil ?_
      intro t
      have HBT := Lib.hid (HBS.out.trans ((HWH.out t).mono HBS.out.size))
      clear X3 Y3 A0 A1 A2 A3 B0 B1 B2 B3 HWH HWW
      go_wp2_with fail
      go_roundg (len' - (k + 1))
      case measure => omega
      case rel => exact ⟨k + 1, rfl, by go_num, by omega, HBT⟩
     ·obtain rfl : k = len' := by omega
      go_wp2_with fail
      go_ret
      exact ⟨rfl, HBX.out⟩
end
section
open Go Go.RowKit
def PgB (b : Nat) (p : Trm × List Dat) (W : World) : Prop := ∃ (oc : Option Addr) (lc kc : Nat) (o n : Int) (ov : Option Addr) (lv cv : Nat) (ot : Option Addr) (lt ct : Nat), BoxL W b 28 [.slice oc lc kc, .int .i64 o, .int .i64 n, .slice ov lv cv, .slice ot lt ct] ∧
 RepS (hide W fun c => c = b) W.heap.size p.2 (.slice oc lc kc) ∧ TrmR (hide W fun c => c = b) W.heap.size p.1 [.int .i64 o, .int .i64 n, .slice ov lv cv, .slice ot lt ct]
theorem PgB.set {b : Nat} {p : Trm × List Dat} {W : World} {oc : Option Addr} {lc kc : Nat} {o n : Int} {ov : Option Addr} {lv cv : Nat} {ot : Option Addr} {lt ct : Nat} {c0 c1 c2 c3 c4 : Value} (hb : BoxL W b 28 [c0, c1, c2, c3, c4])
  (h2 : RepS (hide W fun c => c = b) W.heap.size p.2 (.slice oc lc kc)) (h3 : TrmR (hide W fun c => c = b) W.heap.size p.1 [.int .i64 o, .int .i64 n, .slice ov lv cv, .slice ot lt ct]) : PgB b p (set5 W b (.slice oc lc kc) (.int .i64 o) (.int .i64 n) (.slice ov lv cv) (.slice ot lt ct)) := by
 have ht := set5_turned W (S := fun c => c = b) (b := b) rfl (.slice oc lc kc) (.int .i64 o) (.int .i64 n) (.slice ov lv cv) (.slice ot lt ct)
 exact ⟨oc, lc, kc, o, n, ov, lv, cv, ot, lt, ct, set5_boxL hb _ _ _ _ _, h2.shown (Shown.turned ht fun _ _ h => h) ht.size, h3.shown (Shown.turned ht fun _ _ h => h) ht.size⟩
theorem PgB.new {p : Trm × List Dat} {W : World} {oc : Option Addr} {lc kc : Nat} {o n : Int} {ov : Option Addr} {lv cv : Nat} {ot : Option Addr} {lt ct : Nat} (h2 : RepS W W.heap.size p.2 (.slice oc lc kc)) (h3 : TrmR W W.heap.size p.1 [.int .i64 o, .int .i64 n, .slice ov lv cv, .slice ot lt ct]) :
  PgB W.heap.size p (W.alloc (.cells #[.slice oc lc kc, .int .i64 o, .int .i64 n, .slice ov lv cv, .slice ot lt ct] 28)) := by
 have hb := Below.one W (.cells #[.slice oc lc kc, .int .i64 o, .int .i64 n, .slice ov lv cv, .slice ot lt ct] 28)
 exact ⟨oc, lc, kc, o, n, ov, lv, cv, ot, lt, ct, BoxL.new rfl _ _, ((h2.kept hb).dug fun b e => by omega).wider hb.size, TrmR.wider hb.size _ _ ((TrmR.kept hb _ _ h3).dug fun b e => by omega)⟩
theorem foldRests_walk (cs : List Dat) (x : Trm) (cc c0 c1 c2 c3 : Value) (w : World) (hcon : RepS w w.heap.size cs cc) (hbody : TrmR w w.heap.size x [c0, c1, c2, c3]) (hE : Env w) (hbk : Dat.bulkL cs ≤ 1048576) :
  Calls Tryz.prog 4 #[.agg #[cc, c0, c1, c2, c3]] w fun e w' => e = .returned (.bool true) ∧ Below w.heap.size w w' := by
 obtain ⟨q, r, u, q', r', u', rfl, rfl, rfl, rfl⟩ := hbody.shape2
 obtain ⟨oc, lc, kc, rfl⟩ : ∃ o l c, cc = .slice o l c := by obtain ⟨o, l, c, h, _⟩ := hcon; exact ⟨o, l, c, h⟩
 obtain ⟨W1, hW1⟩ : ∃ W1, w.alloc (.cells #[.slice oc lc kc, .int .i64 x.op, .int .i64 x.n, .slice q r u, .slice q' r' u'] 28) = W1 := ⟨_, rfl⟩
 have HB1 := Lib.hid (show Below w.heap.size w W1 from by rw [← hW1]; exact Below.one w _)
 have HX1 := Lib.hid (show BoxL W1 w.heap.size 28 [.slice oc lc kc, .int .i64 x.op, .int .i64 x.n, .slice q r u, .slice q' r' u'] from by rw [← hW1]; exact BoxL.new rfl _ _)
 have HAW := Lib.hid (awake11_any W1 (env_kept hE HB1.out))
 have HCON := Lib.hid (fun W (hb : Below w.heap.size w W) => hcon.kept hb)
 have HBODY := Lib.hid (fun W (hb : Below w.heap.size w W) => TrmR.kept hb _ _ hbody)
 have HENV := Lib.hid (fun W (hb : Below w.heap.size w W) => env_kept hE hb)
 have HW := Lib.hid hW1
 obtain ⟨f, hf⟩ : ∃ f, Fd.fewB cs x 60 = f := ⟨_, rfl⟩
 have HFEW := Lib.hid (fun W (hb : Below w.heap.size w W) => few11_any cs x _ _ _ _ _ 60 w.heap.size W (HCON.out W hb) (HBODY.out W hb) hb.size (by omega) (by omega) f hf)
 have HFF := Lib.hid hf
 have HBK := Lib.hid hbk
 clear hcon hbody hE hW1 hf hbk
 go_enter Tryz.func4, Tryz.ntmps4
 go_upto_region 1 with fail
 rw [HW.out]
 clear HW
 go_wp2_with fail
 refine HAW.out.mono ?_
 rintro e W2 ⟨rfl, hb2⟩
 have HB2 := Lib.hid (HB1.out.trans (hb2.mono HB1.out.size))
 have HX2 := Lib.hid (HX1.out.keep hb2)
 clear hb2 HAW HX1 HB1
 have x0 := HX2.out.cell 0 rfl
 have x1 := HX2.out.cell 1 rfl
 have x2 := HX2.out.cell 2 rfl
 have x3 := HX2.out.cell 3 rfl
 have x4 := HX2.out.cell 4 rfl
 have xl := HX2.out.lt
 go_wp2_with fail
 refine (HFEW.out W2 HB2.out).mono ?_
 rintro e W3 ⟨rfl, hb3⟩
 have HB3 := Lib.hid (HB2.out.trans (hb3.mono HB2.out.size))
 have HX3 := Lib.hid (HX2.out.keep hb3)
 clear hb3 HFEW HX2 HB2 x0 x1 x2 x3 x4 xl
 cases f with
 | false =>
  go_wp2_with fail
  go_ret
  exact ⟨rfl, HB3.out⟩
 | true =>
  have hfew := HFF.out
  simp only [Fd.fewB, Bool.and_eq_true, decide_eq_true_eq] at hfew
  obtain ⟨hf1, hf2, hf3⟩ := hfew
  have HCV := Lib.hid (fconvert_any cs x _ _ _ _ _ w.heap.size W3 (HCON.out W3 HB3.out) (HBODY.out W3 HB3.out) HB3.out.size (HENV.out W3 HB3.out) (by omega) (fun _ => by omega) (fun _ d hd => Nat.le_trans (Fd.bulkL_mem hd) HBK.out))
  have x0 := HX3.out.cell 0 rfl
  have x1 := HX3.out.cell 1 rfl
  have x2 := HX3.out.cell 2 rfl
  have x3 := HX3.out.cell 3 rfl
  have x4 := HX3.out.cell 4 rfl
  have xl := HX3.out.lt
  by_cases hok : Fd.okP cs x = true
  ·have hst := Fd.steps hok (fun d hd => Nat.le_trans (Fd.bulkL_mem hd) HBK.out)
   have hconv : Fd.conv cs x = some (Fd.iter Fd.foldF 1 x cs) := if_pos hok
   rw [hconv] at HCV
   have HREST := Lib.hid (Fd.rests hok (by omega))
   have HST := Lib.hid (fun (k : Nat) (hk : k ≤ 71) (cc c0 c1 c2 c3 : Value) (S : Nat → Prop) (W : World) (h1 : RepS (hide W S) W.heap.size (Fd.iter Fd.foldF k x cs).2 cc) (h2 : TrmR (hide W S) W.heap.size (Fd.iter Fd.foldF k x cs).1 [c0, c1, c2, c3]) (hS : ∀ b, S b → b < W.heap.size) (hE : Env W) => show Calls Tryz.prog 10 #[.agg #[cc, c0, c1, c2, c3]] W (CvPostS S (some (Fd.iter Fd.foldF (k + 1) x cs)) W) from by
    have h := hst k
    have := fconvert_anyS _ _ cc c0 c1 c2 c3 S W h1 h2 hS hE (by have := h.all; omega) (fun _ => by
     have := h.len
     have h2 : k * x.all ≤ 71 * 60 := Nat.mul_le_mul hk (by omega)
     omega) (fun _ => h.bulk)
    rwa [Fd.conv, if_pos h.ok] at this)
   clear hconv hok hst hf1 hf2 hf3
   go_wp2_with fail
   refine HCV.out.mono ?_
   rintro e W4 ⟨hb4, oc4, lc4, kc4, o4, n4, ov4, lv4, cv4, ot4, lt4, ct4, rfl, hr4, ht4⟩
   have HB4 := Lib.hid (HB3.out.trans (hb4.mono HB3.out.size))
   have HPN := Lib.hid (PgB.new hr4 ht4)
   have HB5 := Lib.hid (HB4.out.trans ((Below.one W4 (.cells #[.slice oc4 lc4 kc4, .int .i64 o4, .int .i64 n4, .slice ov4 lv4 cv4, .slice ot4 lt4 ct4] 28)).mono HB4.out.size))
   have HZ4 := Lib.hid HB4.out.size
   clear hb4 hr4 ht4 HCV HX3 x0 x1 x2 x3 x4 xl HB3 HFF HBK HCON HBODY HB4
   go_wp2_with fail
   go_loopg [6, 5] 70 (fun g i e wr => ∃ (k : Nat), g = 70 - k ∧ i = .int .i64 k ∧ k ≤ 70 ∧ e = .int .i64 0 ∧ Hid (PgB W4.heap.size (Fd.iter Fd.foldF (k + 1) x cs) wr) ∧ Hid (Below w.heap.size w wr))
   case atStart => exact ⟨0, rfl, rfl, by omega, rfl, HPN, HB5⟩
   case round =>
    obtain ⟨k, rfl, rfl, hk, rfl, HP, HBR⟩ := hrel
    clear HPN HB5
    obtain ⟨oc5, lc5, kc5, o5, n5, ov5, lv5, cv5, ot5, lt5, ct5, hbx, hr5, ht5⟩ := HP.out
    have HBX := Lib.hid hbx
    have HCC := Lib.hid (HST.out (k + 1) (by omega) _ _ _ _ _ (fun c => c = W4.heap.size) wr hr5 ht5 (fun b e => by rw [e]; exact hbx.lt) (HENV.out wr HBR.out))
    have HT5 := Lib.hid ht5
    clear hbx hr5 ht5 HP
    have y0 := HBX.out.cell 0 rfl
    have y1 := HBX.out.cell 1 rfl
    have y2 := HBX.out.cell 2 rfl
    have y3 := HBX.out.cell 3 rfl
    have y4 := HBX.out.cell 4 rfl
    have yl := HBX.out.lt
    by_cases hkl : k < 70
    ·have dk : decide ((k : Int) < 70) = true := decide_eq_true (by omega)
     go_wp2_with fail
     refine HCC.out.mono ?_
     rintro e w1 ⟨hb1, oc6, lc6, kc6, o6, n6, ov6, lv6, cv6, ot6, lt6, ct6, rfl, hr6, ht6⟩
     have HBX6 := Lib.hid (HBX.out.keep hb1)
     have HB6 := Lib.hid (HBR.out.trans (hb1.mono HBR.out.size))
     have HP6 := Lib.hid (PgB.set (p := Fd.iter Fd.foldF (k + 1 + 1) x cs) HBX6.out hr6 ht6)
     have HB7 := Lib.hid (HB6.out.trans (set5_below w1 W4.heap.size w.heap.size (.slice oc6 lc6 kc6) (.int .i64 o6) (.int .i64 n6) (.slice ov6 lv6 cv6) (.slice ot6 lt6 ct6) HZ4.out))
     clear hb1 hr6 ht6 HCC HT5 HBX y0 y1 y2 y3 y4 yl
     have y0 := HBX6.out.cell 0 rfl
     have y1 := HBX6.out.cell 1 rfl
     have y2 := HBX6.out.cell 2 rfl
     have y3 := HBX6.out.cell 3 rfl
     have y4 := HBX6.out.cell 4 rfl
     have f0 := HBX6.out.free 0
     have f1 := HBX6.out.free 1
     have f2 := HBX6.out.free 2
     have f3 := HBX6.out.free 3
     have f4 := HBX6.out.free 4
     have yl := HBX6.out.lt
     go_wp2_with fail
     go_roundg (70 - (k + 1))
     case measure => omega
     case rel => exact ⟨k + 1, rfl, by go_num, by omega, rfl, HP6, HB7⟩
    ·obtain rfl : k = 70 := by omega
     go_wp2_with fail
     refine HCC.out.mono ?_
     rintro e w1 ⟨hb1, oc6, lc6, kc6, o6, n6, ov6, lv6, cv6, ot6, lt6, ct6, rfl, hr6, ht6⟩
     have hb7 := hb1.trans ((Below.one w1 (.cells #[.slice oc6 lc6 kc6, .int .i64 o6, .int .i64 n6, .slice ov6 lv6 cv6, .slice ot6 lt6 ct6] 28)).mono hb1.size)
     obtain ⟨W7, hW7⟩ : ∃ W7, w1.alloc (.cells #[.slice oc6 lc6 kc6, .int .i64 o6, .int .i64 n6, .slice ov6 lv6 cv6, .slice ot6 lt6 ct6] 28) = W7 := ⟨_, rfl⟩
     have hb8 : Below w1.heap.size w1 W7 := by rw [← hW7]; exact Below.one _ _
     rw [hW7] at hb7
     have HBX7 := Lib.hid (HBX.out.keep hb7)
     have HRX7 := Lib.hid (show BoxL W7 w1.heap.size 28 [.slice oc6 lc6 kc6, .int .i64 o6, .int .i64 n6, .slice ov6 lv6 cv6, .slice ot6 lt6 ct6] from by rw [← hW7]; exact BoxL.new rfl _ _)
     have HB7 := Lib.hid (HBR.out.trans (hb7.mono HBR.out.size))
     have HAL := Lib.hid (talike_self (Fd.iter Fd.foldF 71 x cs).1 (.int .i64 o5) (.int .i64 n5) (.slice ov5 lv5 cv5) (.slice ot5 lt5 ct5) (.int .i64 o6) (.int .i64 n6) (.slice ov6 lv6 cv6) (.slice ot6 lt6 ct6) W7.heap.size W7 (HT5.out.shown (Shown.below hb7) hb7.size).unhide (by have h : TrmR W7 W7.heap.size (Fd.iter Fd.foldF 72 x cs).1 _ := (ht6.shown (Shown.below hb8) hb8.size).unhide; rwa [HREST.out] at h) (Nat.le_refl _))
     have HW7 := Lib.hid hW7
     clear hb1 hr6 ht6 HCC HT5 HBX y0 y1 y2 y3 y4 yl hb7 hb8 hW7
     go_upto_region 14 with fail
     rw [HW7.out]
     have y1 := HBX7.out.cell 1 rfl
     have y2 := HBX7.out.cell 2 rfl
     have y3 := HBX7.out.cell 3 rfl
     have y4 := HBX7.out.cell 4 rfl
     have yl := HBX7.out.lt
     have z1 := HRX7.out.cell 1 rfl
     have z2 := HRX7.out.cell 2 rfl
     have z3 := HRX7.out.cell 3 rfl
     have z4 := HRX7.out.cell 4 rfl
     have zl := HRX7.out.lt
     go_wp2_with fail
     refine HAL.out.mono ?_
     rintro e W8 ⟨rfl, hb8⟩
     have HB8 := Lib.hid (HB7.out.trans (hb8.mono HB7.out.size))
     clear hb8
     go_wp2_with fail
     go_ret
     exact ⟨rfl, HB8.out⟩
  ·have hconv : Fd.conv cs x = none := if_neg hok
   rw [hconv] at HCV
   clear hconv hok
   go_wp2_with fail
   refine HCV.out.mono ?_
   rintro e W4 ⟨hb4, rfl⟩
   have HB4 := Lib.hid (HB3.out.trans (hb4.mono HB3.out.size))
   clear hb4 HCV HX3 x0 x1 x2 x3 x4 xl HB3
   go_wp2_with fail
   go_ret
   exact ⟨rfl, HB4.out.trans ((Below.one W4 _).mono HB4.out.size)⟩
end
end Go.Proofs.YtgbibibmpoekiaaGreatDoor

/-
  The walk of PrimsSums.
-/
import Derived.Test.YtnpiekniignfcaaGreatDoorLaw05
import Derived.Test.YtnpiekniignfcaaGreatDoorSl
import Derived.Test.YtnpiekniignfcaaGreatDoorSames
namespace Go.Proofs.YtnpiekniignfcaaGreatDoor
open Go.RowKit

/-! ### plain -/
/-- One more number: as long as it goes well. -/
def accS (n : Int) (st : Int × Int × Int) (x : Dat) : Int × Int × Int := if st.2.2 = 0 then Prims.step n st.1 st.2.1 x.n x.d else st
theorem acc_stuck (n : Int) : ∀ (l : List Dat) (st : Int × Int × Int), st.2.2 ≠ 0 → l.foldl (accS n) st = st
  | [], _, _ => rfl
  | x :: l, st, h => by rw [List.foldl_cons, show accS n st x = st from if_neg h, acc_stuck n l st h]
theorem sumsL_acc (n : Int) : ∀ (l : List Dat) (a b : Int), Prims.sumsL n l a b = if (l.foldl (accS n) (a, b, 0)).2.2 = 0 then (Prims.num (l.foldl (accS n) (a, b, 0)).1 (l.foldl (accS n) (a, b, 0)).2.1, 0) else (Prims.zeroD, (l.foldl (accS n) (a, b, 0)).2.2)
  | [], a, b => rfl
  | x :: l, a, b => by
    rw [Prims.sumsL, List.foldl_cons, show accS n (a, b, 0) x = Prims.step n a b x.n x.d from if_pos rfl]
    split
    · rename_i hz
      rw [sumsL_acc n l, show Prims.step n a b x.n x.d = ((Prims.step n a b x.n x.d).1, (Prims.step n a b x.n x.d).2.1, 0) from by rw [← hz]]
    · rename_i hz
      rw [acc_stuck n l _ hz, if_neg hz]
theorem fold_sum (i : Nat) (hi : i = 0 ∨ i = 2) (l : List Dat) (hl : ∀ x ∈ l, x.kind = 0 ∧ Dat.right x 0 = true) (a b e : Int) (h : l.foldl (accS i) (if i = 0 then 0 else 1, 1, 0) = (a, b, e)) :
    ∃ a' b', Prims.fold i l = (Prims.num a' b', e, true) ∧ (e = 0 → a' = a ∧ b' = b) := by
  have hr : (l.all fun x => Dat.right x 0) = true := List.all_eq_true.2 fun x hx => (hl x hx).2
  have ht : Prims.takes (i : Int) l.length = true := by
    rcases hi with rfl | rfl
    · simp [Prims.takes, show Prims.has 0 = true by decide, show (Prims.facts 0).least = 0 by decide +kernel, show (Prims.facts 0).most = -1 by decide +kernel]
    · simp [Prims.takes, show Prims.has 2 = true by decide, show (Prims.facts 2).least = 0 by decide +kernel, show (Prims.facts 2).most = -1 by decide +kernel]
  have hd : Prims.does (i : Int) l = Prims.sumsL i l (if i = 0 then 0 else 1) 1 := by
    rcases hi with rfl | rfl
    · simp [Prims.does, Prims.sums, Prims.sumsR]
      exact fun x hx h => absurd (hl x hx).1 h
    · simp [Prims.does, Prims.sums, Prims.sumsR]
      exact fun x hx h => absurd (hl x hx).1 h
  have hf : Prims.fold (i : Int) l = ((Prims.does (i : Int) l).1, (Prims.does (i : Int) l).2, true) := by
    rcases hi with rfl | rfl
    · have ht0 : Prims.takes 0 (l.length : Int) = true := ht
      simp [Prims.fold, hr, ht0, show Prims.has 0 = true by decide, show (Prims.facts 0).folds = true by decide +kernel]
    · have ht0 : Prims.takes 2 (l.length : Int) = true := ht
      simp [Prims.fold, hr, ht0, show Prims.has 2 = true by decide, show (Prims.facts 2).folds = true by decide +kernel]
  rw [hf, hd, sumsL_acc, h]
  by_cases he : e = 0
  · subst he
    exact ⟨a, b, by simp, fun _ => ⟨rfl, rfl⟩⟩
  · exact ⟨0, 0, by simp [he, Prims.zeroD], fun h => absurd h he⟩

/-- What the loop keeps: the data so far in a row of the call's own, the sum and the product so far. -/
def SumsWI (w : World) (j : Nat) (dv : Value) (a b e p q f : Int) (wr : World) : Prop :=
  ∃ (done : List Dat) (xs : List Value), done.length = j ∧ wr.ownsRow w.heap.size 26 5 dv done.length xs ∧ CellsD wr w.heap.size done xs ∧ (∀ x ∈ done, x.kind = 0 ∧ Dat.right x 0 = true) ∧
    done.foldl (accS 0) (0, 1, 0) = (a, b, e) ∧ done.foldl (accS 2) (1, 1, 0) = (p, q, f) ∧ Below w.heap.size w wr ∧
    (-2147483647 ≤ a ∧ a ≤ 2147483647 ∧ -2147483647 ≤ b ∧ b ≤ 2147483647) ∧ (-2147483647 ≤ p ∧ p ≤ 2147483647 ∧ -2147483647 ≤ q ∧ q ≤ 2147483647)

theorem acc_next {n : Int} {done : List Dat} {x : Dat} {st0 st st' : Int × Int × Int} (h : done.foldl (accS n) st0 = st) (h' : accS n st x = st') : (done ++ [x]).foldl (accS n) st0 = st' := by
  rw [List.foldl_append, h]; exact h'

theorem acc_same {n a b e a2 b2 e2 : Int} {x : Dat} (he : ¬ e = 0) (h : accS n (a, b, e) x = (a2, b2, e2)) : a = a2 ∧ b = b2 ∧ e = e2 := by
  rw [accS, if_neg he] at h
  simpa using h
theorem acc_bd {n a b e a2 b2 e2 : Int} {x : Dat} (hab : -2147483647 ≤ a ∧ a ≤ 2147483647 ∧ -2147483647 ≤ b ∧ b ≤ 2147483647) (h : accS n (a, b, e) x = (a2, b2, e2)) : -2147483647 ≤ a2 ∧ a2 ≤ 2147483647 ∧ -2147483647 ≤ b2 ∧ b2 ≤ 2147483647 := by
  by_cases he : e = 0
  · rw [accS, if_pos he] at h
    have := step_bd h
    exact ⟨this.1, this.2.1, this.2.2.1, this.2.2.2.1⟩
  · obtain ⟨rfl, rfl, rfl⟩ := acc_same he h
    exact hab
theorem sumsWI_next {w w2 : World} {j : Nat} {v' : Value} {done : List Dat} {xs : List Value} {a b e p q f a2 b2 e2 p2 q2 f2 n m : Int} (hdl : done.length = j)
    (hown : w2.ownsRow w.heap.size 26 5 v' (done.length + 1) (xs ++ [.int .i64 0, .int .i64 n, .int .i64 m, .string ⟨#[]⟩, .slice none 0 0])) (hcs : CellsD w2 w.heap.size done xs) (hok : ∀ x ∈ done, x.kind = 0 ∧ Dat.right x 0 = true) (hx : (Prims.num n m).kind = 0 ∧ Dat.right (Prims.num n m) 0 = true)
    (hac : done.foldl (accS 0) (0, 1, 0) = (a, b, e)) (hmc : done.foldl (accS 2) (1, 1, 0) = (p, q, f)) (hA : accS 0 (a, b, e) (Prims.num n m) = (a2, b2, e2)) (hP : accS 2 (p, q, f) (Prims.num n m) = (p2, q2, f2)) (hb : Below w.heap.size w w2)
    (hab : -2147483647 ≤ a ∧ a ≤ 2147483647 ∧ -2147483647 ≤ b ∧ b ≤ 2147483647) (hpq : -2147483647 ≤ p ∧ p ≤ 2147483647 ∧ -2147483647 ≤ q ∧ q ≤ 2147483647) (hn : (-9223372036854775808 ≤ n ∧ n ≤ 9223372036854775807) ∧ (-9223372036854775808 ≤ m ∧ m ≤ 9223372036854775807)) : SumsWI w (j + 1) v' a2 b2 e2 p2 q2 f2 w2 :=
  ⟨done ++ [Prims.num n m], _, by simp [hdl], by simpa using hown, CellsD.snoc (rep_leaf 0 n m ⟨#[]⟩ (by omega) hn.1 hn.2 (by decide)) hcs, fun y hy => by
    rcases List.mem_append.1 hy with h | h
    · exact hok y h
    · rw [List.mem_singleton.1 h]; exact hx, acc_next hac hA, acc_next hmc hP, hb, acc_bd hab hA, acc_bd hpq hP⟩
theorem sumsWI_draw {w W W' : World} {j : Nat} {dv : Value} {a b e p q f : Int} (h : SumsWI w j dv a b e p q f W) (hW : ∃ k, W' = W.drewN k) : SumsWI w j dv a b e p q f W' := by
  obtain ⟨k, rfl⟩ := hW
  obtain ⟨done, xs, h1, h2, h3, h4, h5, h6, h7, h8, h9⟩ := h
  exact ⟨done, xs, h1, h2, CellsD.mono (w := W) (w' := W.drewN k) (fun x v h => h.kept (w := W) (w' := W.drewN k) ⟨rfl, rfl, rfl, Nat.le_refl _, fun _ _ => rfl⟩) h3, h4, h5, h6, Below.drewN h7 k, h8, h9⟩

set_option maxHeartbeats 8000000 in
set_option maxRecDepth 100000 in
theorem primsSums_walk (l : List (Int × Int)) (sl : Value) (w : World) (hv : SlC w w.heap.size 2 PairR l sl) :
    Calls Tryz.prog 5 #[sl] w fun e w' => e = .returned (.bool true) ∧ Below w.heap.size w w' := by
  obtain ⟨o, len, cap, rfl, hl, hcap, hmax⟩ := hv.slice
  have HS := Lib.hid hv
  have HL := Lib.hid hl
  clear hv hl
  go_enter Tryz.func5, Tryz.ntmps5
  go_wp2_with fail
  refine (awake5_any w).mono ?_
  rintro e1 w1 ⟨rfl, hb1⟩
  have HB1 := Lib.hid hb1
  clear hb1
  by_cases hlen : 30 < len
  · have hd : decide ((30 : Int) < (len : Int)) = true := decide_eq_true (by omega)
    go_wp2_with fail
    go_ret
    exact ⟨rfl, HB1.out⟩
  have hd : decide ((30 : Int) < (len : Int)) = false := decide_eq_false (by omega)
  have HI0 := Lib.hid (show SumsWI w 0 (.slice none 0 0) 0 1 0 1 1 0 w1 from ⟨[], [], rfl, World.ownsRow_nil _ _ _ _, rfl, by simp, rfl, rfl, HB1.out, by omega, by omega⟩)
  go_wp2_with fail
  go_loopg [4, 5, 6, 7, 8, 9, 10, 11] len (fun g u4 u5 u6 u7 u8 u9 u10 u11 wr => ∃ (j : Nat) (a b e p q f : Int), g = len - j ∧ j ≤ len ∧ u5 = .int .i64 a ∧ u6 = .int .i64 b ∧ u7 = .int .i64 e ∧ u8 = .int .i64 p ∧ u9 = .int .i64 q ∧ u10 = .int .i64 f ∧ u11 = .int .i64 j ∧ Hid (SumsWI w j u4 a b e p q f wr))
  case atStart => exact ⟨0, 0, 1, 0, 1, 1, 0, rfl, by omega, rfl, rfl, rfl, rfl, rfl, rfl, rfl, HI0⟩
  case round =>
    obtain ⟨j, a, b, e, p, q, f, rfl, hj, rfl, rfl, rfl, rfl, rfl, rfl, rfl, HI⟩ := hrel
    obtain ⟨done, xs, hdl, hown, hcs, hok, hac, hmc, hb, hab, hpq⟩ := HI.out
    have HO := Lib.hid hown
    have HC := Lib.hid hcs
    have HOK := Lib.hid hok
    have HAC := Lib.hid hac
    have HMC := Lib.hid hmc
    have HB := Lib.hid hb
    have HDL := Lib.hid hdl
    have hsz := hb.size
    clear hown hcs hok hac hmc hb hdl HI
    by_cases hjl : j < len
    · obtain ⟨⟨x0, x1⟩, hx⟩ : ∃ x, l[j]? = some x := ⟨_, List.getElem?_eq_getElem (by rw [← HL.out]; exact hjl)⟩
      obtain ⟨b1, off1, cs, ho1, _, hcl, hcell, hpr, hx0, hx1⟩ := HS.out.at HB.out hx
      subst ho1
      dsimp only at hpr hx0 hx1
      subst hpr
      have c0 := hcell 0 _ rfl
      have c1 := hcell 1 _ rfl
      rw [Nat.add_zero] at c0
      have hbl := cell_lt c0
      obtain ⟨n, m, g, hq⟩ : ∃ n m g, Num.mk x0 x1 = (n, m, g) := ⟨_, _, _, rfl⟩
      have HQ := Lib.hid hq
      have hbd := mk_bd x0 x1
      rw [hq] at hbd
      have HG := Lib.hid hbd.2.2.2.2
      have hn0 : -2147483647 ≤ n := hbd.1
      have hn1 : n ≤ 2147483647 := hbd.2.1
      have hm0 : -2147483647 ≤ m := hbd.2.2.1
      have hm1 : m ≤ 2147483647 := hbd.2.2.2.1
      have C0 := Lib.hid c0
      have C1 := Lib.hid c1
      have HD := Lib.hid ((Below.refl wr.heap.size wr).drew)
      clear hcell hcl hx hq hbd c0 c1
      go_wp2_with fail
      refine wp_region_quiet_all (Below wr.heap.size wr) (by kernel_rfl) (by kernel_rfl) HD.out ?_
      intro T0 _ W HW HW2
      have g0 : ∀ t, (W t).cell? _ = _ := fun t => ((HW t).cell (p := ⟨b1, _, none⟩) hbl).trans C0.out
      have g1 : ∀ t, (W t).cell? _ = _ := fun t => ((HW t).cell (p := ⟨b1, _, none⟩) hbl).trans C1.out
      have HC0 : Hid (∀ t, Calls Tryz.prog 18 #[.int .i64 x0, .int .i64 x1] (W t) fun e w' => e = .returned (.tuple #[.int .i64 n, .int .i64 m, .int .i64 g]) ∧ ∃ t', w' = W t') := Lib.hid (fun t => (make_to x0 x1 n m g HQ.out hx0.1 hx0.2 hx1.1 hx1.2 (W t)).mono fun e w' h => ⟨h.1, by obtain ⟨_, k, hk⟩ := h; exact HW2 _ (by rw [hk]; exact Below.drewN (HW t) k)⟩)
      have HWH := Lib.hid HW
      clear HW HW2
      repeat (go_big_quiet_step (first | (go_at_call 18; exact HC0.out _)))
      refine wpQuiet_nil ?_
      intro t
      have HBW := Lib.hid (Below.next HB.out (HWH.out t))
      have HWHB := Lib.hid ((HWH.out t).mono hsz)
      have hsW := (HWH.out t).size
      have hsw := HBW.out.size
      clear g0 g1
      by_cases hg : g = 0
      · subst hg
        have HNR := Lib.hid (HG.out rfl)
        have HOW := Lib.hid (show (W t).ownsRow w.heap.size 26 5 u4 done.length xs from HO.out.kept (row := none) ⟨(HWH.out t).os, (HWH.out t).tape, (HWH.out t).output, (HWH.out t).size, fun k hk _ => (HWH.out t).block k hk⟩ (by cases h : u4.ownBlock with
          | none => exact .inl rfl
          | some _ => exact .inr (by simp)))
        have hdl : done.length ≤ 30 := by rw [HDL.out]; omega
        obtain ⟨i0, hi, hz0, hz1, hz2⟩ := info_parts info_datum
        go_wp2_with (at_builtin; refine wpList_append_own _ rfl _ _ 22 rfl w.heap.size 26 i0 (.agg #[.int .i64 0, .int .i64 0, .int .i64 0, .string ⟨#[]⟩, .slice none 0 0]) 5 64 Tryz.underlying22 hi hz0 hz1 hz2 rfl (by decide) u4 done.length xs rfl (HOW.out.alloc _) ⟨(W t).heap.size, 0, none⟩ 1 1 [.int .i64 0, .int .i64 n, .int .i64 m, .string ⟨#[]⟩, .slice none 0 0] rfl rfl ?c1 ?c2 ?c3 ?c4 ?c5 ?_)
        case c2 => exact ⟨rfl, rfl, rfl, rfl, rfl⟩
        case c3 => unfold maxLen; omega
        case c4 => omega
        case c5 => omega
        intro v' w2 hown' hgrow _
        have hb2 : Below w.heap.size (W t) w2 := ((Below.refl w.heap.size (W t)).alloc hsw _).grown hgrow (by simp; omega) (fun g hg => (HOW.out.lt g hg).1)
        have HB2 := Lib.hid (HBW.out.trans hb2)
        have HO2 := Lib.hid hown'
        have HX := Lib.hid (show (Prims.num n m).kind = 0 ∧ Dat.right (Prims.num n m) 0 = true from ⟨rfl, by
          have := HNR.out
          simp [Prims.num, Dat.right, Dat.head, Dat.rightL, this]⟩)
        obtain ⟨a2, b2, e2, hA⟩ : ∃ a2 b2 e2, accS 0 (a, b, e) (Prims.num n m) = (a2, b2, e2) := ⟨_, _, _, rfl⟩
        obtain ⟨p2, q2, f2, hP⟩ : ∃ p2 q2 f2, accS 2 (p, q, f) (Prims.num n m) = (p2, q2, f2) := ⟨_, _, _, rfl⟩
        have HN := Lib.hid (sumsWI_next HDL.out HO2.out (HC.out.mono fun x v h => h.kept (HWHB.out.trans hb2)) HOK.out HX.out HAC.out HMC.out hA hP HB2.out hab hpq ⟨⟨by omega, by omega⟩, ⟨by omega, by omega⟩⟩)
        have HA := Lib.hid hA
        have HP := Lib.hid hP
        clear hb2 hown' hgrow hA hP
        by_cases he : e = 0
        · subst he
          have HQA := Lib.hid (show Num.add a b n m = (a2, b2, e2) from HA.out)
          by_cases hf : f = 0
          · subst hf
            have HQP := Lib.hid (show Num.mul p q n m = (p2, q2, f2) from HP.out)
            go_wp2_with (first | (go_at_call 19; refine (add_to a b n m a2 b2 e2 HQA.out (by omega) (by omega) (by omega) (by omega) (by omega) (by omega) (by omega) (by omega) _).mono ?_; rintro e' w' ⟨rfl, ka, rfl⟩) | (go_at_call 20; refine (mul_to p q n m p2 q2 f2 HQP.out (by omega) (by omega) (by omega) (by omega) (by omega) (by omega) (by omega) (by omega) _).mono ?_; rintro e' w' ⟨rfl, kp, rfl⟩))
            go_roundg (len - (j + 1))
            case measure => omega
            case rel => exact ⟨j + 1, _, _, _, _, _, _, rfl, by omega, rfl, rfl, rfl, rfl, rfl, rfl, by go_num, Lib.hid (sumsWI_draw HN.out ⟨ka + kp, rfl⟩)⟩
          · obtain ⟨rfl, rfl, rfl⟩ := acc_same hf HP.out
            have hf2 : (f == 0) = false := by simpa using hf
            go_wp2_with (first | (go_at_call 19; refine (add_to a b n m a2 b2 e2 HQA.out (by omega) (by omega) (by omega) (by omega) (by omega) (by omega) (by omega) (by omega) _).mono ?_; rintro e' w' ⟨rfl, ka, rfl⟩))
            go_roundg (len - (j + 1))
            case measure => omega
            case rel => exact ⟨j + 1, _, _, _, _, _, _, rfl, by omega, rfl, rfl, rfl, rfl, rfl, rfl, by go_num, Lib.hid (sumsWI_draw HN.out ⟨ka, rfl⟩)⟩
        · obtain ⟨rfl, rfl, rfl⟩ := acc_same he HA.out
          have he2 : (e == 0) = false := by simpa using he
          by_cases hf : f = 0
          · subst hf
            have HQP := Lib.hid (show Num.mul p q n m = (p2, q2, f2) from HP.out)
            go_wp2_with (first | (go_at_call 20; refine (mul_to p q n m p2 q2 f2 HQP.out (by omega) (by omega) (by omega) (by omega) (by omega) (by omega) (by omega) (by omega) _).mono ?_; rintro e' w' ⟨rfl, kp, rfl⟩))
            go_roundg (len - (j + 1))
            case measure => omega
            case rel => exact ⟨j + 1, _, _, _, _, _, _, rfl, by omega, rfl, rfl, rfl, rfl, rfl, rfl, by go_num, Lib.hid (sumsWI_draw HN.out ⟨kp, rfl⟩)⟩
          · obtain ⟨rfl, rfl, rfl⟩ := acc_same hf HP.out
            have hf2 : (f == 0) = false := by simpa using hf
            go_wp2_with fail
            go_roundg (len - (j + 1))
            case measure => omega
            case rel => exact ⟨j + 1, _, _, _, _, _, _, rfl, by omega, rfl, rfl, rfl, rfl, rfl, rfl, by go_num, HN⟩
      · have hg2 : (g != 0) = true := by simpa using hg
        go_wp2_with fail
        go_ret
        exact ⟨rfl, HBW.out⟩
    · obtain rfl : len = j := by omega
      have hRS : RepS wr wr.heap.size done u4 := repS_of_row HO.out HC.out hsz
      obtain ⟨x', y', hf0, hf0'⟩ := fold_sum 0 (.inl rfl) done HOK.out a b e HAC.out
      obtain ⟨z', v', hf2, hf2'⟩ := fold_sum 2 (.inr rfl) done HOK.out p q f HMC.out
      have HRS := Lib.hid hRS
      have HF0 := Lib.hid (show Prims.fold 0 done = (.mk 0 x' y' ⟨#[]⟩ [], e, true) from hf0)
      have HF2 := Lib.hid (show Prims.fold 2 done = (.mk 0 z' v' ⟨#[]⟩ [], f, true) from hf2)
      have HG0 := Lib.hid hf0'
      have HG2 := Lib.hid hf2'
      clear hRS hf0 hf0' hf2 hf2' hjl
      go_wp2_with fail
      refine (fold_to 0 (by omega) (by omega) done u4 wr.heap.size wr 0 x' y' e ⟨#[]⟩ [] true HF0.out HRS.out (Nat.le_refl _)).mono ?_
      rintro e1 w2 ⟨o2, len2, cap2, rfl, _, hb2⟩
      have HB2 := Lib.hid hb2
      have hs2 := hb2.size
      have HRS2 := Lib.hid (((HRS.out.kept hb2).wider hb2.size))
      clear hb2
      have HF := Lib.hid (fun X => fold_to 2 (by omega) (by omega) done u4 w2.heap.size (w2.alloc X) 0 z' v' f ⟨#[]⟩ [] true HF2.out (HRS2.out.kept ((Below.refl _ _).alloc (Nat.le_refl _) _)) (by simp))
      go_wp2_with fail
      refine (HF.out _).mono ?_
      rintro e1 w3 ⟨o3, len3, cap3, rfl, _, hb3⟩
      have hbox := (hb3.block _ (by simp)).trans (Box5.new w2 26 (.int .i64 0) (.int .i64 x') (.int .i64 y') (.string ⟨#[]⟩) (.slice o2 len2 cap2))
      have HBE := Lib.hid ((Below.next (Below.next HB.out HB2.out) (one_below hb3)).alloc (by have := one_size hb3; omega) (.cells #[.int .i64 0, .int .i64 z', .int .i64 v', .string ⟨#[]⟩, .slice o3 len3 cap3] 26))
      have hlt : w2.heap.size < w3.heap.size := by have := one_size hb3; omega
      obtain ⟨q0, q1, q2, q3, q4⟩ := Box5.cells hbox
      clear hb3 hbox
      by_cases he : e = 0
      · subst he
        obtain ⟨rfl, rfl⟩ := HG0.out rfl
        by_cases hf : f = 0
        · subst hf
          obtain ⟨rfl, rfl⟩ := HG2.out rfl
          go_wp2_with fail
          go_ret
          exact ⟨rfl, HBE.out⟩
        · have hf2 : (f == 0) = false := by simpa using hf
          have hf3 : (f != 0) = true := by simpa using hf
          go_wp2_with fail
          go_ret
          exact ⟨rfl, HBE.out⟩
      · have he2 : (e == 0) = false := by simpa using he
        have he3 : (e != 0) = true := by simpa using he
        by_cases hf : f = 0
        · subst hf
          obtain ⟨rfl, rfl⟩ := HG2.out rfl
          go_wp2_with fail
          go_ret
          exact ⟨rfl, HBE.out⟩
        · have hf2 : (f == 0) = false := by simpa using hf
          have hf3 : (f != 0) = true := by simpa using hf
          go_wp2_with fail
          go_ret
          exact ⟨rfl, HBE.out⟩
end Go.Proofs.YtnpiekniignfcaaGreatDoor

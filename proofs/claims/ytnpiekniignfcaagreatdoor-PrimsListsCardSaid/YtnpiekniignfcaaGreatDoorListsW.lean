/-
  The walk of PrimsLists.
-/
import Derived.Test.YtnpiekniignfcaaGreatDoorKindsW
import Derived.Test.YtnpiekniignfcaaGreatDoorApart
import Derived.Test.YtnpiekniignfcaaGreatDoorDoes2E
namespace Go.Proofs.YtnpiekniignfcaaGreatDoor
open Go.RowKit

theorem fold_arrX (n : Int) (h0 : -9223372036854775808 ≤ n) (h1 : n ≤ 9223372036854775807) (l : List Dat) (cs : List Value) (t : TypeId) (k : Nat) (W : World) (X : Dat) (z : Int) (b : Bool) (hf : Prims.fold n l = (X, z, b)) (hk : k = l.length) (hm : k ≤ 1000) (hc : CellsD W W.heap.size l cs) :
    Calls Tryz.prog 12 #[.int .i64 n, .slice (some ⟨W.heap.size, 0, none⟩) k k] (W.alloc (.cells cs.toArray t)) fun e w' => ∃ (k' n' d' : Int) (s' : ByteArray) (o : Option Addr) (len cap : Nat), e = .returned (.tuple #[.agg #[.int .i64 k', .int .i64 n', .int .i64 d', .string s', .slice o len cap], .int .i64 z, .bool b]) ∧ RepD w' (W.heap.size + 1) X (.agg #[.int .i64 k', .int .i64 n', .int .i64 d', .string s', .slice o len cap]) ∧ Below (W.heap.size + 1) (W.alloc (.cells cs.toArray t)) w' := by
  obtain ⟨k', n', d', s', l'⟩ := X
  exact (fold_arr n h0 h1 l cs t k W k' n' d' z s' l' b hf hk hm hc).mono fun _ _ ⟨o, len, cap, h⟩ => ⟨k', n', d', s', o, len, cap, h⟩
theorem fold_arrX2 (n : Int) (h0 : -9223372036854775808 ≤ n) (h1 : n ≤ 9223372036854775807) (l : List Dat) (cs : List Value) (t : TypeId) (Y : Obj) (k : Nat) (W : World) (X : Dat) (z : Int) (b : Bool) (hf : Prims.fold n l = (X, z, b)) (hk : k = l.length) (hm : k ≤ 1000) (hc : CellsD W W.heap.size l cs) :
    Calls Tryz.prog 12 #[.int .i64 n, .slice (some ⟨W.heap.size + 1, 0, none⟩) k k] ((W.alloc Y).alloc (.cells cs.toArray t)) fun e w' => ∃ (k' n' d' : Int) (s' : ByteArray) (o : Option Addr) (len cap : Nat), e = .returned (.tuple #[.agg #[.int .i64 k', .int .i64 n', .int .i64 d', .string s', .slice o len cap], .int .i64 z, .bool b]) ∧ RepD w' (W.heap.size + 2) X (.agg #[.int .i64 k', .int .i64 n', .int .i64 d', .string s', .slice o len cap]) ∧ Below (W.heap.size + 2) ((W.alloc Y).alloc (.cells cs.toArray t)) w' := by
  obtain ⟨k', n', d', s', l'⟩ := X
  exact (fold_arr2 n h0 h1 l cs t Y k W k' n' d' z s' l' b hf hk hm hc).mono fun _ _ ⟨o, len, cap, h⟩ => ⟨k', n', d', s', o, len, cap, h⟩

/-! ### plain -/
theorem fold_24 (l : List Dat) (hr : Dat.right (Dat.list l) 0 = true) : Prims.fold 24 [Dat.list l] = (Prims.num l.length 1, 0, true) := by
  simp [Prims.fold, hr, show Prims.has 24 = true by decide, show (Prims.facts 24).folds = true by decide +kernel, show Prims.takes 24 1 = true by decide +kernel, Prims.does, Dat.items_list]
theorem fold_23 (l : List Dat) (hr : Dat.right (.mk 7 0 0 ⟨#[]⟩ l) 0 = true) : Prims.fold 23 [.mk 7 0 0 ⟨#[]⟩ l] = (Prims.num l.length 1, 0, true) := by
  simp [Prims.fold, hr, show Prims.has 23 = true by decide, show (Prims.facts 23).folds = true by decide +kernel, show Prims.takes 23 1 = true by decide +kernel, Prims.does, Dat.kind, Dat.l]
theorem fold_18 (x m : Dat) (hr : Dat.right (Dat.pair x m) 0 = true) : Prims.fold 18 [Dat.pair x m] = (x, 0, true) := by
  have hr' : Dat.right (.mk 6 0 0 ⟨#[]⟩ [x, m]) 0 = true := hr
  simp [Prims.fold, hr', show Prims.has 18 = true by decide, show (Prims.facts 18).folds = true by decide +kernel, show Prims.takes 18 1 = true by decide +kernel, Prims.does, Dat.kind, Dat.l, Dat.pair]
theorem fold_19 (x m : Dat) (hr : Dat.right (Dat.pair x m) 0 = true) : Prims.fold 19 [Dat.pair x m] = (m, 0, true) := by
  have hr' : Dat.right (.mk 6 0 0 ⟨#[]⟩ [x, m]) 0 = true := hr
  simp [Prims.fold, hr', show Prims.has 19 = true by decide, show (Prims.facts 19).folds = true by decide +kernel, show Prims.takes 19 1 = true by decide +kernel, Prims.does, Dat.kind, Dat.l, Dat.pair]
theorem fold_22 (l : List Dat) (j : Nat) (x : Dat) (hx : l[j]? = some x) (hj : j ≤ 1000) (hr : Dat.right (.mk 7 0 0 ⟨#[]⟩ l) 0 = true) : Prims.fold 22 [.mk 7 0 0 ⟨#[]⟩ l, Prims.num j 1] = (x, 0, true) := by
  have h1 : Dat.right (Prims.num j 1) 0 = true := by
    have : Num.right (j : Int) 1 = true := by rw [Num.right_iff]; exact ⟨by omega, by omega, by omega, by omega, by simp⟩
    simp [Prims.num, Dat.right, Dat.head, Dat.rightL, this]
  have hlt : j < l.length := (List.getElem?_eq_some_iff.1 hx).1
  have h2 : Prims.at' (.mk 7 0 0 ⟨#[]⟩ l) (Prims.num j 1) = (x, 0) := by
    rw [Prims.at', if_neg (by simp [Dat.kind, Prims.num]), if_neg (by show ¬ ((1 : Int) ≠ 1 ∨ (j : Int) < 0 ∨ (l.length : Int) ≤ j); omega)]
    show (l.getD (j : Int).toNat Prims.zeroD, (0 : Int)) = (x, 0)
    rw [Int.toNat_natCast, List.getD_eq_getElem?_getD, hx]; rfl
  have h3 : Prims.does 22 [.mk 7 0 0 ⟨#[]⟩ l, Prims.num j 1] = (x, 0) := by rw [← h2]; simp [Prims.does]
  simp [Prims.fold, hr, h1, h3, show Prims.has 22 = true by decide, show (Prims.facts 22).folds = true by decide +kernel, show Prims.takes 22 2 = true by decide +kernel]

theorem list_step {l : List Dat} {j : Nat} {x : Dat} (h : l[j]? = some x) : Dat.list (l.drop j) = Dat.pair x (Dat.list (l.drop (j + 1))) := by
  obtain ⟨hj, he⟩ := List.getElem?_eq_some_iff.1 h
  rw [List.drop_eq_getElem_cons hj, Dat.list, he]

/-- What the second loop keeps. -/
def ListsI (w : World) (H5 H6 : Nat) (l : List Dat) (o : Option Addr) (len cap j : Nat) (wr : World) : Prop :=
  Below w.heap.size w wr ∧ Box5 wr H5 26 (.int .i64 7) (.int .i64 0) (.int .i64 0) (.string ⟨#[]⟩) (.slice o len cap) ∧ Dat.right (Dat.list (l.drop j)) 0 = true ∧
    ∃ (k n d : Int) (s : ByteArray) (o' : Option Addr) (len' cap' : Nat), Box5 wr H6 26 (.int .i64 k) (.int .i64 n) (.int .i64 d) (.string s) (.slice o' len' cap') ∧ RepD wr wr.heap.size (Dat.list (l.drop j)) (.agg #[.int .i64 k, .int .i64 n, .int .i64 d, .string s, .slice o' len' cap'])

set_option maxHeartbeats 8000000 in
set_option maxRecDepth 100000 in
theorem primsLists_walk (l : List Dat) (sl : Value) (w : World) (hv : RepS w w.heap.size l sl) :
    Calls Tryz.prog 9 #[sl] w fun e w' => e = .returned (.bool true) ∧ Below w.heap.size w w' := by
  have HS := Lib.hid hv
  obtain ⟨o, len, cap, rfl, hl, hcap, hmax, hc⟩ := hv
  have HC := Lib.hid hc
  have HL := Lib.hid hl
  clear hc hl
  obtain ⟨r, hr⟩ : ∃ r, Dat.fewB l 100 = r := ⟨_, rfl⟩
  have HRR := Lib.hid hr
  clear hr
  go_enter Tryz.func9, Tryz.ntmps9
  go_wp2_with fail
  refine (awake5_any w).mono ?_
  rintro e1 w1 ⟨rfl, hb1⟩
  have HB1 := Lib.hid hb1
  have hs1 := hb1.size
  clear hb1
  go_wp2_with fail
  refine (few5_any l _ 100 w.heap.size w1 (HS.out.kept HB1.out) hs1 (by omega) (by omega) r HRR.out).mono ?_
  rintro e1 w2 ⟨rfl, hb2⟩
  have HB2 := Lib.hid (Below.next HB1.out hb2)
  clear hb2
  cases r with
  | false =>
    go_wp2_with fail
    go_ret
    exact ⟨rfl, HB2.out⟩
  | true =>
    have hl100 : len ≤ 100 := by
      have := HRR.out
      simp only [Dat.fewB, Bool.and_eq_true, decide_eq_true_eq] at this
      have := HL.out
      omega
    go_wp2_with fail
    go_loopg [4] len (fun g i wr => ∃ (j : Nat), g = len - j ∧ j ≤ len ∧ i = .int .i64 j ∧ Hid (Below w.heap.size w wr))
    case atStart => exact ⟨0, rfl, by omega, rfl, HB2⟩
    case round =>
      obtain ⟨j, rfl, hj, rfl, HB⟩ := hrel
      have hsz := HB.out.size
      by_cases hjl : j < len
      · obtain ⟨x, hx⟩ : ∃ x, l[j]? = some x := ⟨_, List.getElem?_eq_getElem (by rw [← HL.out]; exact hjl)⟩
        obtain ⟨b1, off1, k2, n2, d2, s2, l2, o2, len2, cap2, ho1, hx1, e0, e1, e2, e3, e4, er⟩ := part_at2 HC.out HB.out hx
        subst ho1 hx1
        obtain ⟨p, hp⟩ : ∃ p, Dat.right (.mk k2 n2 d2 s2 l2) 0 = p := ⟨_, rfl⟩
        have HP := Lib.hid hp
        have ER := Lib.hid er
        have hbl := cell_lt e0
        clear hx hp er
        go_wp2_with fail
        refine (dright_to _ _ w.heap.size wr p HP.out ER.out hsz).mono ?_
        rintro e1 w5 ⟨rfl, hb5⟩
        have HB5 := Lib.hid (Below.next HB.out hb5)
        clear hb5
        cases p with
        | true =>
          go_wp2_with fail
          go_roundg (len - (j + 1))
          case measure => omega
          case rel => exact ⟨j + 1, rfl, by omega, by go_num, HB5⟩
        | false =>
          go_wp2_with fail
          go_ret
          exact ⟨rfl, HB5.out⟩
      · obtain rfl : len = j := by omega
        clear hjl
        have HN5 := Lib.hid (show Below w.heap.size w (wr.alloc (.cells #[.int .i64 7, .int .i64 0, .int .i64 0, .string ⟨#[]⟩, .slice o len cap] 26)) ∧ Box5 (wr.alloc (.cells #[.int .i64 7, .int .i64 0, .int .i64 0, .string ⟨#[]⟩, .slice o len cap] 26)) wr.heap.size 26 (.int .i64 7) (.int .i64 0) (.int .i64 0) (.string ⟨#[]⟩) (.slice o len cap) from ⟨HB.out.alloc hsz _, Box5.new _ _ _ _ _ _ _⟩)
        go_wp2_with fail
        refine (list_any l _ w.heap.size _ (HS.out.kept HN5.out.1) HN5.out.1.size).mono ?_
        rintro e1 w3 ⟨v3, rfl, hrep3, hb3⟩
        obtain ⟨k3, n3, d3, s3, o3, len3, cap3, rfl⟩ := agg_of hrep3
        obtain ⟨H5, hH5⟩ : ∃ H5, wr.heap.size = H5 := ⟨_, rfl⟩
        rw [hH5] at HN5
        have HX5 := Lib.hid (show Box5 w3 H5 26 (.int .i64 7) (.int .i64 0) (.int .i64 0) (.string ⟨#[]⟩) (.slice o len cap) from (hb3.block _ HN5.out.2.lt).trans HN5.out.2)
        have HB3 := Lib.hid (Below.next HN5.out.1 hb3)
        have HREP3 := Lib.hid hrep3
        have hs3 := HB3.out.size
        have hlt5 : H5 < w3.heap.size := HX5.out.lt
        have HH5 := Lib.hid hH5
        have hw5 : w.heap.size ≤ H5 := by rw [← hH5]; exact hsz
        clear hb3 hrep3 hH5
        obtain ⟨rv, hrv⟩ : ∃ rv, Dat.right (.mk 7 0 0 ⟨#[]⟩ l) 0 = rv := ⟨_, rfl⟩
        obtain ⟨rd, hrd⟩ : ∃ rd, Dat.right (Dat.list l) 0 = rd := ⟨_, rfl⟩
        have HRV := Lib.hid hrv
        have HRD := Lib.hid hrd
        clear hrv hrd
        have HV := Lib.hid (fun W (hb : Below w.heap.size w W) => (show RepD W w.heap.size (.mk 7 0 0 ⟨#[]⟩ l) (.agg #[.int .i64 7, .int .i64 0, .int .i64 0, .string ⟨#[]⟩, .slice o len cap]) from RepD.shut (by omega) (by omega) (by omega) (by decide) (HS.out.kept hb)))
        obtain ⟨q0, q1, q2, q3, q4⟩ := HX5.out.cells
        try rw [HH5.out]
        go_wp2_with fail
        refine (dright_to _ _ w.heap.size _ rv HRV.out (HV.out _ (HB3.out.alloc hs3 _)) (by simp; omega)).mono ?_
        rintro e1 w4 ⟨rfl, hb4⟩
        have HB4 := Lib.hid (Below.next (HB3.out.alloc hs3 _) hb4)
        have HX4 := Lib.hid (show Box5 w4 H5 26 (.int .i64 7) (.int .i64 0) (.int .i64 0) (.string ⟨#[]⟩) (.slice o len cap) from (hb4.block _ (by simp; omega)).trans (HX5.out.alloc _))
        have HY4 := Lib.hid (show Box5 w4 w3.heap.size 26 (.int .i64 k3) (.int .i64 n3) (.int .i64 d3) (.string s3) (.slice o3 len3 cap3) from (hb4.block _ (by simp)).trans (Box5.new _ _ _ _ _ _ _))
        have HREP4 := Lib.hid (HREP3.out.kept (one_below hb4))
        have hs4 := HB4.out.size
        have hs34 : w3.heap.size < w4.heap.size := HY4.out.lt
        clear hb4 q0 q1 q2 q3 q4
        cases rv with
        | false =>
          go_wp2_with fail
          go_ret
          exact ⟨rfl, HB4.out⟩
        | true =>
          obtain ⟨y0, y1, y2, y3, y4⟩ := HY4.out.cells
          go_wp2_with fail
          refine (dright_to _ _ w3.heap.size w4 rd HRD.out HREP4.out (by omega)).mono ?_
          rintro e1 w5 ⟨rfl, hb5⟩
          have HB5 := Lib.hid (Below.next HB4.out hb5)
          have HX5' := Lib.hid (show Box5 w5 H5 26 (.int .i64 7) (.int .i64 0) (.int .i64 0) (.string ⟨#[]⟩) (.slice o len cap) from (hb5.block _ HX4.out.lt).trans HX4.out)
          have HY5 := Lib.hid (show Box5 w5 w3.heap.size 26 (.int .i64 k3) (.int .i64 n3) (.int .i64 d3) (.string s3) (.slice o3 len3 cap3) from (hb5.block _ HY4.out.lt).trans HY4.out)
          have HREP5 := Lib.hid (HREP4.out.kept (hb5.mono (by omega)))
          have hs5 := HB5.out.size
          have hs35 : w3.heap.size < w5.heap.size := HY5.out.lt
          clear hb5 y0 y1 y2 y3 y4
          cases rd with
          | false =>
            go_wp2_with fail
            go_ret
            exact ⟨rfl, HB5.out⟩
          | true =>
            obtain ⟨H6, hH6⟩ : ∃ H6, w3.heap.size = H6 := ⟨_, rfl⟩
            rw [hH6] at HY5 HREP5 hs35 hlt5
            have HH6 := Lib.hid hH6
            obtain ⟨y0, y1, y2, y3, y4⟩ := HY5.out.cells
            have hlt65 := HY5.out.lt
            have HFA := Lib.hid (fun t => fold_arr 24 (by omega) (by omega) [Dat.list l] [.int .i64 k3, .int .i64 n3, .int .i64 d3, .string s3, .slice o3 len3 cap3] t 1 w5 0 len 1 0 ⟨#[]⟩ [] true (by rw [fold_24 l HRD.out, ← HL.out]; rfl) rfl (by omega) ⟨_, _, _, _, _, _, rfl, HREP5.out.wider (by omega), rfl⟩)
            rw [HH6.out]
            clear hH6 hs34
            go_wp2_with fail
            refine (HFA.out _).mono ?_
            rintro e1 w6 ⟨o6, len6, cap6, rfl, hrep, hb6⟩
            have HB6 := Lib.hid (show Below w5.heap.size w5 w6 from ((Below.refl _ _).alloc (Nat.le_refl _) _).trans (hb6.mono (by omega)))
            have hs6 := HB6.out.size
            clear hb6 hrep HFA y0 y1 y2 y3 y4
            have HX6 := Lib.hid (show Box5 w6 H5 26 (.int .i64 7) (.int .i64 0) (.int .i64 0) (.string ⟨#[]⟩) (.slice o len cap) from (HB6.out.block _ HX5'.out.lt).trans HX5'.out)
            have HY6 := Lib.hid (show Box5 w6 H6 26 (.int .i64 k3) (.int .i64 n3) (.int .i64 d3) (.string s3) (.slice o3 len3 cap3) from (HB6.out.block _ HY5.out.lt).trans HY5.out)
            have HBB6 := Lib.hid (Below.next HB5.out HB6.out)
            have hss6 := HBB6.out.size
            obtain ⟨q0, q1, q2, q3, q4⟩ := HX6.out.cells
            have hltX6 := HX6.out.lt
            have HFB := Lib.hid (fun t X => fold_arr2 23 (by omega) (by omega) [.mk 7 0 0 ⟨#[]⟩ l] [.int .i64 7, .int .i64 0, .int .i64 0, .string ⟨#[]⟩, .slice o len cap] t X 1 w6 0 len 1 0 ⟨#[]⟩ [] true (by rw [fold_23 l HRV.out, ← HL.out]; rfl) rfl (by omega) ⟨_, _, _, _, _, _, rfl, (HV.out w6 HBB6.out).wider hss6, rfl⟩)
            go_wp2_with fail
            refine (HFB.out _ _).mono ?_
            rintro e1 w7 ⟨o7, len7, cap7, rfl, hrep, hb7⟩
            have HZ7 := Lib.hid (show Box5 w7 w6.heap.size 26 (.int .i64 0) (.int .i64 len) (.int .i64 1) (.string ⟨#[]⟩) (.slice o6 len6 cap6) from (hb7.block _ (by omega)).trans ((Box5.new _ _ _ _ _ _ _).alloc _))
            have HB7 := Lib.hid (show Below w6.heap.size w6 w7 from (((Below.refl _ _).alloc (Nat.le_refl _) _).alloc (by simp) _).trans (hb7.mono (by omega)))
            have hs7 := HB7.out.size
            clear hb7 hrep HFB q0 q1 q2 q3 q4
            obtain ⟨z0, z1, z2, z3, z4⟩ := HZ7.out.cells
            have hltZ := HZ7.out.lt
            have hne : ((len : Int) != (len : Int)) = false := by simp
            have HI0 := Lib.hid (show ListsI w H5 H6 l o len cap 0 (w7.alloc (.cells #[.int .i64 0, .int .i64 len, .int .i64 1, .string ⟨#[]⟩, .slice o7 len7 cap7] 26)) from by
              refine ⟨(Below.next HBB6.out HB7.out).alloc (by omega) _, Box5.alloc ((HB7.out.block _ HX6.out.lt).trans HX6.out) _, by rw [List.drop_zero]; exact HRD.out, k3, n3, d3, s3, o3, len3, cap3, Box5.alloc ((HB7.out.block _ HY6.out.lt).trans HY6.out) _, ?_⟩
              rw [List.drop_zero]
              have a1 := (HREP5.out.wider (B' := w5.heap.size) (by omega)).kept HB6.out
              have a2 := (a1.wider hs6).kept HB7.out
              exact (a2.kept ((Below.refl _ _).alloc (by omega) _)).wider (by simp; omega))
            go_wp2_with fail
            go_loopg [13] len (fun g i wr => ∃ (j : Nat), g = len - j ∧ j ≤ len ∧ i = .int .i64 j ∧ Hid (ListsI w H5 H6 l o len cap j wr))
            case atStart => exact ⟨0, rfl, by omega, rfl, HI0⟩
            case round =>
              obtain ⟨j, rfl, hj, rfl, HI⟩ := hrel
              obtain ⟨hb, hx5, hdr, kD, nD, dD, sD, oD, lD, cD, hx6, hrd⟩ := HI.out
              have HB := Lib.hid hb
              have hsz := hb.size
              have HXV := Lib.hid hx5
              have HXD := Lib.hid hx6
              have HDR := Lib.hid hdr
              have HRP := Lib.hid hrd
              have hltV := hx5.lt
              have hltD := hx6.lt
              obtain ⟨q0, q1, q2, q3, q4⟩ := hx6.cells
              clear hb hx5 hdr hx6 hrd HI
              by_cases hjl : j < len
              · obtain ⟨x, hx⟩ : ∃ x, l[j]? = some x := ⟨_, List.getElem?_eq_getElem (by rw [← HL.out]; exact hjl)⟩
                obtain ⟨b1, off1, k2, n2, d2, s2, l2, o2, len2, cap2, ho1, hx1, e0, e1, e2, e3, e4, er⟩ := part_at2 HC.out HB.out hx
                subst ho1 hx1
                have hstep := list_step hx
                obtain ⟨M, hM⟩ : ∃ M, Dat.list (l.drop (j + 1)) = M := ⟨_, rfl⟩
                rw [hM] at hstep
                rw [hstep] at HDR HRP
                have HMM := Lib.hid hM
                have HX := Lib.hid hx
                have ER := Lib.hid er
                have hbl := cell_lt e0
                have HXR := Lib.hid (Dat.right_part HDR.out (y := .mk k2 n2 d2 s2 l2) (by simp [Dat.pair, Dat.l]))
                have HMR := Lib.hid (Dat.right_part HDR.out (y := M) (by simp [Dat.pair, Dat.l]))
                have H18 := Lib.hid (fun t => fold_arrX 18 (by omega) (by omega) [Dat.pair (.mk k2 n2 d2 s2 l2) M] [.int .i64 kD, .int .i64 nD, .int .i64 dD, .string sD, .slice oD lD cD] t 1 wr (.mk k2 n2 d2 s2 l2) 0 true (fold_18 _ _ HDR.out) rfl (by omega) ⟨_, _, _, _, _, _, rfl, HRP.out, rfl⟩)
                have E0 := Lib.hid e0
                have E1 := Lib.hid e1
                have E2 := Lib.hid e2
                have E3 := Lib.hid e3
                have E4 := Lib.hid e4
                clear hstep hM hx er e0 e1 e2 e3 e4
                go_wp2_with fail
                refine (H18.out _).mono ?_
                rintro e1 w8 ⟨ka, na, da, sa, oa, la, ca, rfl, hra, hb8⟩
                have HB8 := Lib.hid (show Below wr.heap.size wr w8 from ((Below.refl _ _).alloc (Nat.le_refl _) _).trans (hb8.mono (by omega)))
                have hs8 := HB8.out.size
                have HRA := Lib.hid (hra.wider (B' := w8.heap.size) (by have := hb8.size; simp at this; omega))
                clear hb8 hra H18 q0 q1 q2 q3 q4
                have HV8 := Lib.hid (show Box5 w8 H5 26 (.int .i64 7) (.int .i64 0) (.int .i64 0) (.string ⟨#[]⟩) (.slice (some ⟨b1, off1, none⟩) len cap) from (HB8.out.block _ HXV.out.lt).trans HXV.out)
                have HD8 := Lib.hid (show Box5 w8 H6 26 (.int .i64 kD) (.int .i64 nD) (.int .i64 dD) (.string sD) (.slice oD lD cD) from (HB8.out.block _ HXD.out.lt).trans HXD.out)
                have HBB8 := Lib.hid (Below.next HB.out HB8.out)
                have hltV8 := HV8.out.lt
                have hltD8 := HD8.out.lt
                obtain ⟨q0, q1, q2, q3, q4⟩ := HV8.out.cells
                have H22 := Lib.hid (fun t X => fold_arrX2 22 (by omega) (by omega) [.mk 7 0 0 ⟨#[]⟩ l, Prims.num j 1] [.int .i64 7, .int .i64 0, .int .i64 0, .string ⟨#[]⟩, .slice (some ⟨b1, off1, none⟩) len cap, .int .i64 0, .int .i64 j, .int .i64 1, .string ⟨#[]⟩, .slice none 0 0] t X 2 w8 (.mk k2 n2 d2 s2 l2) 0 true (fold_22 l j _ HX.out (by omega) HRV.out) rfl (by omega) ⟨_, _, _, _, _, _, rfl, (HV.out w8 HBB8.out).wider HBB8.out.size, _, _, _, _, _, _, rfl, rep_leaf 0 j 1 ⟨#[]⟩ (by omega) (by omega) (by omega) (by decide), rfl⟩)
                go_wp2_with fail
                refine (H22.out _ _).mono ?_
                rintro e1 w9 ⟨kb, nb, db, sb, ob, lb, cb, rfl, hrb, hb9⟩
                have HA9 := Lib.hid (show Box5 w9 w8.heap.size 26 (.int .i64 ka) (.int .i64 na) (.int .i64 da) (.string sa) (.slice oa la ca) from (hb9.block _ (by omega)).trans ((Box5.new _ _ _ _ _ _ _).alloc _))
                have HB9 := Lib.hid (show Below w8.heap.size w8 w9 from (((Below.refl _ _).alloc (Nat.le_refl _) _).alloc (by simp) _).trans (hb9.mono (by omega)))
                have hs9 := HB9.out.size
                have HRB := Lib.hid (hrb.wider (B' := w9.heap.size) (by have := hb9.size; simp at this; omega))
                clear hb9 hrb H22 q0 q1 q2 q3 q4
                have HD9 := Lib.hid (show Box5 w9 H6 26 (.int .i64 kD) (.int .i64 nD) (.int .i64 dD) (.string sD) (.slice oD lD cD) from (HB9.out.block _ HD8.out.lt).trans HD8.out)
                have HV9 := Lib.hid (show Box5 w9 H5 26 (.int .i64 7) (.int .i64 0) (.int .i64 0) (.string ⟨#[]⟩) (.slice (some ⟨b1, off1, none⟩) len cap) from (HB9.out.block _ HV8.out.lt).trans HV8.out)
                have HR9 := Lib.hid (Below.next HB8.out HB9.out)
                have hlt8 := HA9.out.lt
                have hltD9 := HD9.out.lt
                obtain ⟨q0, q1, q2, q3, q4⟩ := HD9.out.cells
                have H19 := Lib.hid (fun t X => fold_arrX2 19 (by omega) (by omega) [Dat.pair (.mk k2 n2 d2 s2 l2) M] [.int .i64 kD, .int .i64 nD, .int .i64 dD, .string sD, .slice oD lD cD] t X 1 w9 M 0 true (fold_19 _ _ HDR.out) rfl (by omega) ⟨_, _, _, _, _, _, rfl, (HRP.out.kept HR9.out).wider HR9.out.size, rfl⟩)
                go_wp2_with fail
                refine (H19.out _ _).mono ?_
                rintro e1 w10 ⟨kc, nc, dc, sc, oc, lc, cc, rfl, hrc, hb10⟩
                have HB10 := Lib.hid (show Box5 w10 w9.heap.size 26 (.int .i64 kb) (.int .i64 nb) (.int .i64 db) (.string sb) (.slice ob lb cb) from (hb10.block _ (by omega)).trans ((Box5.new _ _ _ _ _ _ _).alloc _))
                have HK10 := Lib.hid (show Below w9.heap.size w9 w10 from (((Below.refl _ _).alloc (Nat.le_refl _) _).alloc (by simp) _).trans (hb10.mono (by omega)))
                have hs10 := HK10.out.size
                have HRC := Lib.hid (hrc.wider (B' := w10.heap.size) (by have := hb10.size; simp at this; omega))
                clear hb10 hrc H19 q0 q1 q2 q3 q4
                have HA10 := Lib.hid (show Box5 w10 w8.heap.size 26 (.int .i64 ka) (.int .i64 na) (.int .i64 da) (.string sa) (.slice oa la ca) from (HK10.out.block _ HA9.out.lt).trans HA9.out)
                have HD10 := Lib.hid (show Box5 w10 H6 26 (.int .i64 kD) (.int .i64 nD) (.int .i64 dD) (.string sD) (.slice oD lD cD) from (HK10.out.block _ HD9.out.lt).trans HD9.out)
                have HV10 := Lib.hid (show Box5 w10 H5 26 (.int .i64 7) (.int .i64 0) (.int .i64 0) (.string ⟨#[]⟩) (.slice (some ⟨b1, off1, none⟩) len cap) from (HK10.out.block _ HV9.out.lt).trans HV9.out)
                have HR10 := Lib.hid (Below.next HR9.out HK10.out)
                have HRA10 := Lib.hid (((HRA.out.kept HB9.out).wider hs9).kept HK10.out)
                have HRB10 := Lib.hid (HRB.out.kept HK10.out)
                have HRP10 := Lib.hid (HRP.out.kept HR10.out)
                have hlt9 := HB10.out.lt
                have hltA := HA10.out.lt
                have hltD10 := HD10.out.lt
                have hltV10 := HV10.out.lt
                have hsr := HR10.out.size
                have HDW := Lib.hid ((Below.refl (w10.heap.size + 1) (w10.alloc (.cells #[.int .i64 kc, .int .i64 nc, .int .i64 dc, .string sc, .slice oc lc cc] 26))).drew)
                go_wp2_with fail
                refine wp_region_quiet_all (Below (w10.heap.size + 1) (w10.alloc (.cells #[.int .i64 kc, .int .i64 nc, .int .i64 dc, .string sc, .slice oc lc cc] 26))) (by kernel_rfl) (by kernel_rfl) HDW.out ?_
                intro T0 _ W HW HW2
                have HBA : ∀ t, Box5 (W t) w8.heap.size 26 (.int .i64 ka) (.int .i64 na) (.int .i64 da) (.string sa) (.slice oa la ca) := fun t => ((HW t).block _ (by omega)).trans (HA10.out.alloc _)
                have HBB : ∀ t, Box5 (W t) w9.heap.size 26 (.int .i64 kb) (.int .i64 nb) (.int .i64 db) (.string sb) (.slice ob lb cb) := fun t => ((HW t).block _ (by omega)).trans (HB10.out.alloc _)
                have HWR : ∀ t, Below wr.heap.size wr (W t) := fun t => (HR10.out.alloc hsr _).trans ((HW t).mono (by omega))
                have HWT : ∀ t, Below w10.heap.size w10 (W t) := fun t => ((Below.refl _ _).alloc (Nat.le_refl _) _).trans ((HW t).mono (by omega))
                have HSZ : ∀ t, w10.heap.size + 1 ≤ (W t).heap.size := fun t => by have := (HW t).size; simpa using this
                have g0 : ∀ t, (W t).cell? _ = _ := fun t => (HBA t).cells.1
                have g1 : ∀ t, (W t).cell? _ = _ := fun t => (HBA t).cells.2.1
                have g2 : ∀ t, (W t).cell? _ = _ := fun t => (HBA t).cells.2.2.1
                have g3 : ∀ t, (W t).cell? _ = _ := fun t => (HBA t).cells.2.2.2.1
                have g4 : ∀ t, (W t).cell? _ = _ := fun t => (HBA t).cells.2.2.2.2
                have m0 : ∀ t, (W t).cell? _ = _ := fun t => (HBB t).cells.1
                have m1 : ∀ t, (W t).cell? _ = _ := fun t => (HBB t).cells.2.1
                have m2 : ∀ t, (W t).cell? _ = _ := fun t => (HBB t).cells.2.2.1
                have m3 : ∀ t, (W t).cell? _ = _ := fun t => (HBB t).cells.2.2.2.1
                have m4 : ∀ t, (W t).cell? _ = _ := fun t => (HBB t).cells.2.2.2.2
                have j0 : ∀ t, (W t).cell? _ = _ := fun t => ((HWR t).cell (p := ⟨b1, _, none⟩) hbl).trans E0.out
                have j1 : ∀ t, (W t).cell? _ = _ := fun t => ((HWR t).cell (p := ⟨b1, _, none⟩) hbl).trans E1.out
                have j2 : ∀ t, (W t).cell? _ = _ := fun t => ((HWR t).cell (p := ⟨b1, _, none⟩) hbl).trans E2.out
                have j3 : ∀ t, (W t).cell? _ = _ := fun t => ((HWR t).cell (p := ⟨b1, _, none⟩) hbl).trans E3.out
                have j4 : ∀ t, (W t).cell? _ = _ := fun t => ((HWR t).cell (p := ⟨b1, _, none⟩) hbl).trans E4.out
                have HC0 : Hid (∀ t, Calls Tryz.prog 26 #[.agg #[.int .i64 ka, .int .i64 na, .int .i64 da, .string sa, .slice oa la ca], .agg #[.int .i64 k2, .int .i64 n2, .int .i64 d2, .string s2, .slice o2 len2 cap2]] (W t) fun e w' => e = .returned (.bool true) ∧ ∃ t', w' = W t') := Lib.hid (fun t => (dsame_to (.mk k2 n2 d2 s2 l2) (.mk k2 n2 d2 s2 l2) _ _ w10.heap.size (W t) true HXR.out HXR.out (Dat.alike_self _) ((HRA10.out.wider (by omega)).kept (HWT t)) (((ER.out.wider (by omega)).kept (HR10.out)).wider (by omega) |>.kept (HWT t)) (HWT t).size).mono fun e w' h => ⟨h.1, HW2 _ ((HW t).trans (h.2.mono (HSZ t)))⟩)
                have HC1 : Hid (∀ t, Calls Tryz.prog 26 #[.agg #[.int .i64 kb, .int .i64 nb, .int .i64 db, .string sb, .slice ob lb cb], .agg #[.int .i64 k2, .int .i64 n2, .int .i64 d2, .string s2, .slice o2 len2 cap2]] (W t) fun e w' => e = .returned (.bool true) ∧ ∃ t', w' = W t') := Lib.hid (fun t => (dsame_to (.mk k2 n2 d2 s2 l2) (.mk k2 n2 d2 s2 l2) _ _ w10.heap.size (W t) true HXR.out HXR.out (Dat.alike_self _) ((HRB10.out.wider (by omega)).kept (HWT t)) (((ER.out.wider (by omega)).kept (HR10.out)).wider (by omega) |>.kept (HWT t)) (HWT t).size).mono fun e w' h => ⟨h.1, HW2 _ ((HW t).trans (h.2.mono (HSZ t)))⟩)
                have HWH := Lib.hid HW
                clear HW HW2
                repeat (go_big_quiet_step (first | (go_at_call 26; with_reducible exact HC0.out _) | (go_at_call 26; with_reducible exact HC1.out _)))
                refine wpQuiet_nil ?_
                intro t
                have hbxc : Box5 (W t) w10.heap.size 26 (.int .i64 kc) (.int .i64 nc) (.int .i64 dc) (.string sc) (.slice oc lc cc) := ((HWH.out t).block _ (by omega)).trans (Box5.new _ _ _ _ _ _ _)
                have hbxd : Box5 (W t) H6 26 (.int .i64 kD) (.int .i64 nD) (.int .i64 dD) (.string sD) (.slice oD lD cD) := ((HWT t).block _ hltD10).trans HD10.out
                have hbxv : Box5 (W t) H5 26 (.int .i64 7) (.int .i64 0) (.int .i64 0) (.string ⟨#[]⟩) (.slice (some ⟨b1, off1, none⟩) len cap) := ((HWT t).block _ hltV10).trans HV10.out
                have HND := Lib.hid (hbxd.set (.int .i64 kc) (.int .i64 nc) (.int .i64 dc) (.string sc) (.slice oc lc cc))
                have HNV := Lib.hid ((set5_heap (W t) H6 (.int .i64 kc) (.int .i64 nc) (.int .i64 dc) (.string sc) (.slice oc lc cc) (show H5 ≠ H6 by omega)).trans hbxv)
                have HNB := Lib.hid ((Below.next HB.out (HWR t)).trans (set5_below (W t) H6 w.heap.size (.int .i64 kc) (.int .i64 nc) (.int .i64 dc) (.string sc) (.slice oc lc cc) (by omega)))
                have HNR := Lib.hid ((rep_over hbxd (HRP10.out.kept ((HWT t).mono (by omega))) (x := M) (by simp [Dat.pair, Dat.all, Dat.allL]; omega) (HRC.out.kept (HWT t)) (.int .i64 kc) (.int .i64 nc) (.int .i64 dc) (.string sc) (.slice oc lc cc)).wider (B' := (set5 (W t) H6 (.int .i64 kc) (.int .i64 nc) (.int .i64 dc) (.string sc) (.slice oc lc cc)).heap.size) (by rw [set5_size]; have := HSZ t; omega))
                obtain ⟨y0, y1, y2, y3, y4⟩ := hbxc.cells
                obtain ⟨v0, v1, v2, v3, v4⟩ := hbxd.cells
                obtain ⟨z0, z1, z2, z3, z4⟩ := hbxd.free
                have hlc := hbxc.lt
                have hld := hbxd.lt
                clear g0 g1 g2 g3 g4 m0 m1 m2 m3 m4 j0 j1 j2 j3 j4 HBA HBB HWR HWT HSZ hbxc hbxd hbxv
                go_wp2_with fail
                go_roundg (len - (j + 1))
                case measure => omega
                case rel => exact ⟨j + 1, rfl, by omega, by go_num, Lib.hid ⟨HNB.out, HNV.out, by rw [HMM.out]; exact HMR.out, kc, nc, dc, sc, oc, lc, cc, HND.out, by rw [HMM.out]; exact HNR.out⟩⟩
              · obtain rfl : len = j := by omega
                have hnull : Dat.list (l.drop len) = Dat.null := by rw [List.drop_of_length_le (by rw [← HL.out]; exact Nat.le_refl _)]; rfl
                rw [hnull] at HRP
                obtain rfl : kD = 4 := by
                  obtain ⟨_, he, _⟩ := RepD.open HRP.out
                  simp only [Value.agg.injEq, Array.mk.injEq, List.cons.injEq, Value.int.injEq, true_and] at he
                  exact he.1
                clear hnull
                go_wp2_with fail
                go_ret
                exact ⟨rfl, HB.out⟩
end Go.Proofs.YtnpiekniignfcaaGreatDoor

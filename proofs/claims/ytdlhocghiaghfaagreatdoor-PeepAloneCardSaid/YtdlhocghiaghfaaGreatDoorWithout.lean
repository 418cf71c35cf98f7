/-
  peep.without.
-/
import Derived.Test.YtdlhocghiaghfaaGreatDoorPNamed
import Derived.Test.YtdlhocghiaghfaaGreatDoorInts
import Derived.Deep.OwnRows
import Derived.Deep.LoopGhost
namespace Go.Proofs.YtdlhocghiaghfaaGreatDoor
open Go.RowKit

theorem info_ins : (Tryz.prog.info? 34).map (fun i => (i.zero, i.size, i.bytes)) = some (some (.agg #[.int .i64 0, .int .i64 0, .int .i64 0, .int .i64 0, .slice none 0 0]), 5, 56) := by kernel_rfl
theorem keepR {W W' : World} (hb : Below W.heap.size W W') {b n : Nat} {t : TypeId} {f : Nat → Value} (h : W.rowIs b t n f) : W'.rowIs b t n f := h.of_block (hb.block _ h.lt)

set_option maxHeartbeats 1000000 in
theorem without1_any (t : Nat) (n ab cap tb : Nat) (f : Nat → Int) (w : World) (hr : w.rowIs ab 3 n (fun i => .int .i64 (f i))) (hb : BoxL w tb 32 [.slice (some ⟨ab, 0, none⟩) n cap]) (ht : t < n) (_hm : n ≤ 100000) :
    Calls Tryz.prog 107 #[.int .i64 t, .pointer (some ⟨tb, 0, none⟩)] w fun e w' => e = .returned (.int .i64 (f t)) ∧ w' = w := by
  have c0 := hb.cell 0 rfl
  have c1 := hr.cell ht
  clear hr hb
  go_enter Tryz.func107, Tryz.ntmps107
  go_wp2_with fail
  go_ret
  exact ⟨rfl, rfl⟩

theorem ownsRow_keep {W W' : World} {base n size : Nat} {e : TypeId} {v : Value} {xs : List Value} (h : W.ownsRow base e size v n xs) (hb : Below W.heap.size W W') : W'.ownsRow base e size v n xs :=
  h.kept (row := none) ⟨hb.os, hb.tape, hb.output, hb.size, fun k hk _ => hb.block k hk⟩ (by cases h : v.ownBlock with
    | none => exact .inl rfl
    | some _ => exact .inr (by simp))
/-- What the first loop keeps. -/
def Wo1 (gone : Nat → Bool) (w : World) (len k : Nat) (wr : World) : Prop :=
  Below w.heap.size w wr ∧ wr.rowIs w.heap.size 3 len (fun i => .int .i64 (if i < k then (Peep.cnt gone i : Nat) else 0 : Int)) ∧ BoxL wr (w.heap.size + 1) 32 [.slice (some ⟨w.heap.size, 0, none⟩) len len]
/-- What the second loop keeps. -/
def Wo2 (gone : Nat → Bool) (code : List Ins) (w : World) (lo hi B len k : Nat) (v : Value) (wr : World) : Prop :=
  ∃ xs, Below w.heap.size w wr ∧ wr.rowIs w.heap.size 3 len (fun i => .int .i64 (Peep.cnt gone i : Nat)) ∧ BoxL wr (w.heap.size + 1) 32 [.slice (some ⟨w.heap.size, 0, none⟩) len len] ∧
    wr.ownsRow (w.heap.size + 2) 34 5 v (Peep.wo gone (fun t => (Peep.cnt gone t.toNat : Nat)) code k).length xs ∧ CellsG 5 (InsR (gap w lo hi) B) (Peep.wo gone (fun t => (Peep.cnt gone t.toNat : Nat)) code k) xs

theorem SlC.cells {α : Type} {w w' : World} {B size : Nat} {R R' : α → List Value → Prop} {l : List α} {v : Value} (h : SlC w B size R l v) (hk : ∀ b o u, w.cell? ⟨b, o, none⟩ = some u → w'.cell? ⟨b, o, none⟩ = some u) (hR : ∀ x ∈ l, ∀ cs, R x cs → R' x cs) : SlC w' B size R' l v := by
  obtain ⟨o, len, cap, rfl, h1, h2, h3, h4⟩ := h
  refine ⟨o, len, cap, rfl, h1, h2, h3, ?_⟩
  cases o with
  | none => exact h4
  | some a =>
    refine ⟨h4.1, fun i x hx => ?_⟩
    obtain ⟨cs, hl, hc, hr⟩ := h4.2 i x hx
    exact ⟨cs, hl, fun j u hu => hk _ _ _ (hc j u hu), hR x (List.mem_of_getElem? hx) cs hr⟩
theorem InsR.cells {w w' : World} {B : Nat} {x : Ins} {cs : List Value} (h : InsR w B x cs) (hk : ∀ b o u, w.cell? ⟨b, o, none⟩ = some u → w'.cell? ⟨b, o, none⟩ = some u) : InsR w' B x cs := by
  obtain ⟨sl, h0, h1, h2, h3, h4, h5⟩ := h
  exact ⟨sl, h0, h1, h2, h3, h4, h5.cells hk fun _ _ _ h => h⟩
theorem gap_heap {W : World} {lo hi c : Nat} (h : ¬ (lo ≤ c ∧ c < hi)) : (gap W lo hi).heap[c]? = W.heap[c]? := by
  simp only [gap, Array.getElem?_mapIdx]
  simp only [if_neg h, Option.map_id_fun', id]
theorem gap_size (W : World) (lo hi : Nat) : (gap W lo hi).heap.size = W.heap.size := by simp [gap]
theorem ownsRow_gap {W : World} {base n size lo hi : Nat} {e : TypeId} {v : Value} {xs : List Value} (h : W.ownsRow base e size v n xs) (hb : hi ≤ base) : (gap W lo hi).ownsRow base e size v n xs := by
  refine ⟨h.1, ?_⟩
  rcases h.2 with h' | ⟨g, cap, cur, h1, h2, h3, h4⟩
  · exact .inl h'
  · exact .inr ⟨g, cap, cur, h1, h2, by rw [gap_heap (by omega)]; exact h3, h4⟩
/-- What lies beside the hidden blocks, and below B, stays. -/
theorem gap_keeps {w w' : World} {lo hi B : Nat} (hb : Below B w w') (b o : Nat) (u : Value) (hB : b < B) (h : (gap w lo hi).cell? ⟨b, o, none⟩ = some u) : (gap w' lo hi).cell? ⟨b, o, none⟩ = some u := by
  obtain ⟨h1, h2⟩ := gap_some h
  rw [gap_other h1]
  exact (hb.cell (p := ⟨b, o, none⟩) hB).trans h2
theorem InsR.gapKept {w w' : World} {lo hi B : Nat} {x : Ins} {cs : List Value} (h : InsR (gap w lo hi) B x cs) (hb : Below w.heap.size w w') : InsR (gap w' lo hi) B x cs :=
  h.cells fun b o u hc => gap_keeps hb b o u (cell_lt (gap_some hc).2) hc
theorem grown_trans {A B C : World} {row : Option Nat} (h : A.grownBy B row) (h' : B.grownBy C row) : A.grownBy C row :=
  ⟨h'.os.trans h.os, h'.tape.trans h.tape, h'.output.trans h.output, Nat.le_trans h.size h'.size, fun k hk hne => (h'.block k (Nat.lt_of_lt_of_le hk h.size) hne).trans (h.block k hk hne)⟩
theorem mapT_ins {w : World} {B : Nat} {x : Ins} {c0 c1 c2 c3 c4 : Value} {g : Int → Int} (h : InsR w B x [c0, c1, c2, c3, c4]) (hga : x.op = 15 → 0 ≤ g x.a ∧ g x.a ≤ 9223372036854775807) (hgb : x.op = 16 → 0 ≤ g x.b ∧ g x.b ≤ 9223372036854775807) : InsR w B (Peep.mapT g x) [.int .i64 (Peep.mapT g x).op, .int .i64 (Peep.mapT g x).d, .int .i64 (Peep.mapT g x).a, .int .i64 (Peep.mapT g x).b, c4] := by
  obtain ⟨sl, he, h1, h2, h3, h4, h5⟩ := h
  simp only [List.cons.injEq, and_true] at he
  obtain ⟨_, _, _, _, rfl⟩ := he
  refine ⟨c4, rfl, ?_⟩
  unfold Peep.mapT
  split
  · rename_i h
    have := hga h
    exact ⟨h1, h2, by dsimp only; omega, h4, h5⟩
  · split
    · rename_i h
      have := hgb h
      exact ⟨h1, h2, h3, by dsimp only; omega, h5⟩
    · exact ⟨h1, h2, h3, h4, h5⟩
theorem wo_step {gone : Nat → Bool} {g : Int → Int} {code : List Ins} {j : Nat} {x : Ins} (h : code[j]? = some x) : Peep.wo gone g code (j + 1) = if gone j then Peep.wo gone g code j else Peep.wo gone g code j ++ [Peep.mapT g x] := by
  rw [Peep.wo, h]; cases gone j <;> simp
theorem wo_length_le (gone : Nat → Bool) (g : Int → Int) (code : List Ins) : ∀ j, (Peep.wo gone g code j).length ≤ j
  | 0 => by simp [Peep.wo]
  | j + 1 => by
    have := wo_length_le gone g code j
    rw [Peep.wo, List.length_append]
    cases code[j]? with
    | none => simp; omega
    | some x => simp only; split <;> simp <;> omega

set_option maxHeartbeats 8000000 in
set_option maxRecDepth 100000 in
theorem without_gap (F : FuncId) (caps : Array Value) (gone : Nat → Bool) (code : List Ins) (o : Option Addr) (len cap : Nat) (lo hi B : Nat) (w : World) (hg : SlC (gap w lo hi) B 5 (InsR (gap w lo hi) B) code (.slice o len cap)) (hh : hi ≤ w.heap.size) (hB : B ≤ w.heap.size) (hm : code.length ≤ 100000)
    (hF : ∀ (args : Array Value) (w : World), (callFunc F args).run Tryz.prog w = .ok (.enter F args) w) (ht : ∀ x ∈ code, (x.op = 15 → 0 ≤ x.a ∧ x.a < (code.length : Int)) ∧ (x.op = 16 → 0 ≤ x.b ∧ x.b < (code.length : Int)))
    (H : ∀ (k : Nat) (x : Ins) (c0 c1 c2 c3 c4 : Value) (W : World), code[k]? = some x → InsR w B x [c0, c1, c2, c3, c4] → Below w.heap.size w W → Calls Tryz.prog F (#[.int .i64 k, .agg #[c0, c1, c2, c3, c4]] ++ caps) W fun e w' => e = .returned (.bool (gone k)) ∧ Below W.heap.size W w') :
    Calls Tryz.prog 80 #[.slice o len cap, .func (.func F) #[] caps] w fun e w' => ∃ v, e = .returned v ∧ SlC (gap w' lo hi) w'.heap.size 5 (InsR (gap w' lo hi) w'.heap.size) (Peep.without gone code) v ∧ Below w.heap.size w w' := by
  have hv : SlC w B 5 (InsR w B) code (.slice o len cap) := hg.cells (fun _ _ _ h => (gap_some h).2) fun _ _ _ h => h.cells fun _ _ _ h => (gap_some h).2
  have HGAP := Lib.hid hg
  obtain ⟨hlen, hcap, hmax⟩ := hv.lens
  have HL := Lib.hid hlen
  have HV := Lib.hid hv
  have HT := Lib.hid ht
  have HH := Lib.hid H
  have hm' : len ≤ 100000 := by omega
  have hmk := run_make_row' (P := Tryz.prog) 32 3 (.int .i64 0) 8 Tryz.underlying32 info_int rfl .i64 .i64 len (by omega) (by omega)
  have HI0 := Lib.hid (show Wo1 gone w len 0 ((w.alloc (.cells (madeCells #[.int .i64 0] len) 3)).alloc (.cells #[.slice (some ⟨w.heap.size, 0, none⟩) len len] 32)) from ⟨(Below.one w _).trans ((Below.one _ _).mono (by simp)), ((World.rowIs_made w (.int .i64 0) len 3).alloc _).congr (by intro i hi; simp), BoxL.new (by simp) _ _⟩)
  clear hlen hv hg ht H hm
  go_enter Tryz.func80, Tryz.ntmps80
  go_wp2_with fail
  go_loopg [6, 17] len (fun g n i wr => ∃ k : Nat, g = len - k ∧ k ≤ len ∧ n = .int .i64 (Peep.cnt gone k : Nat) ∧ i = .int .i64 k ∧ Hid (Wo1 gone w len k wr))
  case atStart => exact ⟨0, rfl, by omega, rfl, rfl, HI0⟩
  case round =>
    obtain ⟨k, rfl, hk, rfl, rfl, HI⟩ := hrel
    obtain ⟨hb, hr, hx5⟩ := HI.out
    have hck := Peep.cnt_le gone k
    by_cases hkl : k < len
    · obtain ⟨x, hx⟩ : ∃ x, code[k]? = some x := ⟨_, List.getElem?_eq_getElem (by rw [← HL.out]; exact hkl)⟩
      obtain ⟨b1, off1, cs, ho1, hbB, hcl, hcell, hins⟩ := HV.out.at (hb.mono hB) hx
      subst ho1
      match cs, hcl with
      | [c0, c1, c2, c3, c4], _ =>
        have e0 := hcell 0 _ rfl
        have e1 := hcell 1 _ rfl
        have e2 := hcell 2 _ rfl
        have e3 := hcell 3 _ rfl
        have e4 := hcell 4 _ rfl
        rw [Nat.add_zero] at e0
        obtain ⟨op, d, a, b, l⟩ := x
        have HINS := Lib.hid hins
        obtain ⟨sl, he, _, _, _, _, hsl⟩ := hins
        obtain ⟨o4, l4, c4', rfl⟩ := hsl.form
        simp only [List.cons.injEq, and_true] at he
        obtain ⟨rfl, rfl, rfl, rfl, rfl⟩ := he
        have HX := Lib.hid hx
        clear hsl
        skip
        have f0 := hx5.cell 0 rfl
        have r0 := hr.cell hkl
        have rz := hr.frozen k
        have hl0 := hr.lt
        have hl1 := hx5.lt
        simp only [Nat.lt_irrefl, ↓reduceIte] at r0
        have HB := Lib.hid hb
        have HR := Lib.hid hr
        have H5 := Lib.hid hx5
        obtain ⟨q, hq⟩ : ∃ q, gone k = q := ⟨_, rfl⟩
        have HQ := Lib.hid hq
        have hbl := cell_lt e0
        clear hx hcell hb hr hx5 hq
        have HW1 := Lib.hid (show Below w.heap.size w ((wr.setCell ⟨w.heap.size, k, none⟩ (.int .i64 (Peep.cnt gone k : Nat))).alloc (.cells #[.int .i64 op, .int .i64 d, .int .i64 a, .int .i64 b, .slice o4 l4 c4'] 34)) from (HB.out.setCell (p := ⟨w.heap.size, k, none⟩) (Nat.le_refl _) _).alloc (by simpa using HB.out.size) _)
        have HR1 := Lib.hid (show World.rowIs ((wr.setCell ⟨w.heap.size, k, none⟩ (.int .i64 (Peep.cnt gone k : Nat))).alloc (.cells #[.int .i64 op, .int .i64 d, .int .i64 a, .int .i64 b, .slice o4 l4 c4'] 34)) w.heap.size 3 len (fun i => .int .i64 (if i < k + 1 then (Peep.cnt gone i : Nat) else 0 : Int)) from ((HR.out.set k _).alloc _).congr (by
          intro i hi
          by_cases h : i = k
          · subst h; simp
          · by_cases h2 : i < k
            · simp [h, h2, show i < k + 1 by omega]
            · simp [h, h2, show ¬ i < k + 1 by omega]))
        have H51 := Lib.hid (show BoxL ((wr.setCell ⟨w.heap.size, k, none⟩ (.int .i64 (Peep.cnt gone k : Nat))).alloc (.cells #[.int .i64 op, .int .i64 d, .int .i64 a, .int .i64 b, .slice o4 l4 c4'] 34)) (w.heap.size + 1) 32 [.slice (some ⟨w.heap.size, 0, none⟩) len len] from (H5.out.other _ _ (by simp)).alloc _)
        have HBX := Lib.hid (show BoxL ((wr.setCell ⟨w.heap.size, k, none⟩ (.int .i64 (Peep.cnt gone k : Nat))).alloc (.cells #[.int .i64 op, .int .i64 d, .int .i64 a, .int .i64 b, .slice o4 l4 c4'] 34)) wr.heap.size 34 [.int .i64 op, .int .i64 d, .int .i64 a, .int .i64 b, .slice o4 l4 c4'] from BoxL.new (by simp) _ _)
        go_upto_region 7 with fail
        generalize ((wr.setCell ⟨w.heap.size, k, none⟩ (.int .i64 (Peep.cnt gone k : Nat))).alloc (.cells #[.int .i64 op, .int .i64 d, .int .i64 a, .int .i64 b, .slice o4 l4 c4'] 34)) = W at HW1 HR1 H51 HBX ⊢
        have x0 := HBX.out.cell 0 rfl
        have x1 := HBX.out.cell 1 rfl
        have x2 := HBX.out.cell 2 rfl
        have x3 := HBX.out.cell 3 rfl
        have x4 := HBX.out.cell 4 rfl
        clear HB HR H5 f0 r0 rz e0 e1 e2 e3 e4
        have HC := Lib.hid (HH.out k _ _ _ _ _ _ W HX.out HINS.out HW1.out)
        rw [HQ.out] at HC
        go_wp2_with fail
        with_reducible refine HC.out.mono ?_
        rintro e w1 ⟨rfl, hb1⟩
        have HN := Lib.hid (show Wo1 gone w len (k + 1) w1 from ⟨HW1.out.trans (hb1.mono HW1.out.size), keepR hb1 HR1.out, H51.out.keep hb1⟩)
        clear hb1 HC HW1 HR1 H51 HBX x0 x1 x2 x3 x4
        cases q with
        | true =>
          have HCN := Lib.hid (show Peep.cnt gone (k + 1) = Peep.cnt gone k from by rw [Peep.cnt, HQ.out]; simp)
          go_wp2_with fail
          go_roundg (len - (k + 1))
          case measure => omega
          case rel => exact ⟨k + 1, rfl, by omega, by rw [HCN.out], by go_num, HN⟩
        | false =>
          have HCN := Lib.hid (show Peep.cnt gone (k + 1) = Peep.cnt gone k + 1 from by rw [Peep.cnt, HQ.out]; simp)
          go_wp2_with fail
          go_roundg (len - (k + 1))
          case measure => omega
          case rel => exact ⟨k + 1, rfl, by omega, by rw [HCN.out]; go_num, by go_num, HN⟩
    · obtain rfl : k = len := by omega
      have HI2 := Lib.hid (show Wo2 gone code w lo hi B k 0 (.slice none 0 0) wr from ⟨[], hb, hr.congr (by intro i hi; simp [hi]), hx5, World.ownsRow_nil _ _ _ _, rfl⟩)
      clear HI0 hb hr hx5 HI hck hkl hk
      go_wp2_with fail
      go_loopg [9, 36] k (fun g v i wr => ∃ j : Nat, g = k - j ∧ j ≤ k ∧ i = .int .i64 j ∧ Hid (Wo2 gone code w lo hi B k j v wr))
      case atStart => exact ⟨0, rfl, by omega, rfl, HI2⟩
      case round =>
        obtain ⟨j, rfl, hj, rfl, HI⟩ := hrel
        clear HI2
        obtain ⟨xs, hb, hr, hx5, hown, hcs⟩ := HI.out
        by_cases hjl : j < k
        · obtain ⟨x, hx⟩ : ∃ x, code[j]? = some x := ⟨_, List.getElem?_eq_getElem (by rw [← HL.out]; exact hjl)⟩
          obtain ⟨b1, off1, cs, ho1, hbB, hcl, hcell0, hing⟩ := HGAP.out.at (Below.refl _ _) hx
          have hins := hing.cells (w' := w) (fun _ _ _ h => (gap_some h).2)
          have HING := Lib.hid hing
          have hcell : ∀ q u, cs[q]? = some u → wr.cell? ⟨b1, off1 + j * 5 + q, none⟩ = some u := fun q u hu => (hb.cell (p := ⟨b1, off1 + j * 5 + q, none⟩) (Nat.lt_of_lt_of_le hbB hB)).trans (gap_some (hcell0 q u hu)).2
          subst ho1
          clear hing hcell0
          match cs, hcl with
          | [c0, c1, c2, c3, c4], _ =>
            have e0 := hcell 0 _ rfl
            have e1 := hcell 1 _ rfl
            have e2 := hcell 2 _ rfl
            have e3 := hcell 3 _ rfl
            have e4 := hcell 4 _ rfl
            rw [Nat.add_zero] at e0
            have HXX := Lib.hid hx
            obtain ⟨op, d, a, b, l⟩ := x
            have HINS := Lib.hid hins
            obtain ⟨sl, he, _, _, _, _, hsl⟩ := hins
            obtain ⟨o4, l4, c4', rfl⟩ := hsl.form
            simp only [List.cons.injEq, and_true] at he
            obtain ⟨rfl, rfl, rfl, rfl, rfl⟩ := he
            clear hsl
            have HB := Lib.hid hb
            have HR := Lib.hid hr
            have H5 := Lib.hid hx5
            have HO := Lib.hid hown
            have HCS := Lib.hid hcs
            have hsz := hb.size
            obtain ⟨q, hq⟩ : ∃ q, gone j = q := ⟨_, rfl⟩
            have HQ := Lib.hid hq
            have hbl := cell_lt e0
            have HC := Lib.hid (fun X => HH.out j _ _ _ _ _ _ (wr.alloc X) hx HINS.out (HB.out.alloc HB.out.size X))
            rw [HQ.out] at HC
            have HBN := Lib.hid (BoxL.new (W := wr) rfl 34 [.int .i64 op, .int .i64 d, .int .i64 a, .int .i64 b, .slice o4 l4 c4'])
            clear hx hcell hb hr hx5 hown hcs hq HI
            go_wp2_with fail
            with_reducible refine (HC.out _).mono ?_
            rintro e w1 ⟨rfl, hb1⟩
            have HB1 := Lib.hid (Below.next HB.out (one_below hb1))
            have HW := Lib.hid (one_below hb1)
            have HX := Lib.hid (HBN.out.keep hb1)
            have hs1 := HB1.out.size
            clear hb1 HC HBN e0 e1 e2 e3 e4
            cases q with
            | true =>
              have HN := Lib.hid (show Wo2 gone code w lo hi B k (j + 1) u9 w1 from by
                have e : Peep.wo gone (fun t => (Peep.cnt gone t.toNat : Nat)) code (j + 1) = Peep.wo gone (fun t => (Peep.cnt gone t.toNat : Nat)) code j := by rw [wo_step HXX.out, HQ.out]; rfl
                refine ⟨xs, HB1.out, keepR HW.out HR.out, H5.out.keep HW.out, ?_, ?_⟩
                · rw [e]; exact ownsRow_keep HO.out HW.out
                · rw [e]; exact HCS.out)
              go_wp2_with fail
              go_roundg (k - (j + 1))
              case measure => omega
              case rel => exact ⟨j + 1, rfl, by omega, by go_num, HN⟩
            | false =>
              have hT := HT.out _ (List.mem_of_getElem? HXX.out)
              have HNM := Lib.hid (pnamed_any 107 #[.pointer (some ⟨w.heap.size + 1, 0, none⟩)] (fun t => (Peep.cnt gone t.toNat : Nat)) _ _ _ _ _ _ B w1 (HINS.out.kept (HB1.out.mono hB)) (fun _ _ => rfl) (fun t W h hW => by
                have h2 : 0 ≤ t ∧ t < (code.length : Int) := by
                  rcases h with ⟨h, rfl⟩ | ⟨h, rfl⟩
                  · exact hT.1 h
                  · exact hT.2 h
                obtain ⟨n, rfl⟩ : ∃ n : Nat, t = n := ⟨t.toNat, by omega⟩
                have h3 : n < k := by rw [HL.out]; omega
                exact (without1_any n k w.heap.size k (w.heap.size + 1) (fun i => (Peep.cnt gone i : Nat)) W (keepR hW (keepR HW.out HR.out)) ((H5.out.keep HW.out).keep hW) h3 hm').mono fun e w' h => ⟨by rw [h.1]; simp, by rw [h.2]; exact Below.refl _ _⟩))
              have HIN := Lib.hid (mapT_ins (g := fun t => (Peep.cnt gone t.toNat : Nat)) HING.out (fun h => by have h1 := Peep.cnt_le gone a.toNat; have h2 := hT.1 h; have h3 := HL.out; dsimp only at *; omega) (fun h => by have h1 := Peep.cnt_le gone b.toNat; have h2 := hT.2 h; have h3 := HL.out; dsimp only at *; omega))
              have HWS := Lib.hid (show Peep.wo gone (fun t => (Peep.cnt gone t.toNat : Nat)) code (j + 1) = Peep.wo gone (fun t => (Peep.cnt gone t.toNat : Nat)) code j ++ [Peep.mapT (fun t => (Peep.cnt gone t.toNat : Nat)) ⟨op, d, a, b, l⟩] from by rw [wo_step HXX.out, HQ.out]; rfl)
              obtain ⟨y, hy⟩ : ∃ y, Peep.mapT (fun t => (Peep.cnt gone t.toNat : Nat)) ⟨op, d, a, b, l⟩ = y := ⟨_, rfl⟩
              rw [hy] at HNM HIN HWS
              obtain ⟨yo, yd, ya, yb, yl⟩ := y
              unfold InsV at HNM
              have hwl := wo_length_le gone (fun t => (Peep.cnt gone t.toNat : Nat)) code j
              have x0 := HX.out.cell 0 rfl
              have x1 := HX.out.cell 1 rfl
              have x2 := HX.out.cell 2 rfl
              have x3 := HX.out.cell 3 rfl
              have x4 := HX.out.cell 4 rfl
              clear hy hT
              go_wp2_with fail
              with_reducible refine HNM.out.mono ?_
              rintro e w2 ⟨rfl, hb2⟩
              have HB2 := Lib.hid (Below.next HB1.out hb2)
              have HW2 := Lib.hid (Below.next HW.out hb2)
              have hs2 := HB2.out.size
              have HO2 := Lib.hid (ownsRow_keep HO.out HW2.out)
              have hrow : ∀ g, u9.ownBlock = some g → w.heap.size + 2 ≤ g := fun g hg => (HO.out.lt g hg).1
              have HROW := Lib.hid hrow
              have h52 := (H5.out.keep HW2.out).lt
              clear hb2 HNM x0 x1 x2 x3 x4 hrow
              obtain ⟨i0, hi0, hz0, hz1, hz2⟩ := info_parts info_ins
              go_wp2_with (at_builtin; refine wpList_append_own _ rfl _ _ 28 rfl (w.heap.size + 2) 34 i0 (.agg #[.int .i64 0, .int .i64 0, .int .i64 0, .int .i64 0, .slice none 0 0]) 5 56 Tryz.underlying28 hi0 hz0 hz1 hz2 rfl (by decide) u9 _ xs rfl (HO2.out.alloc _) ⟨w2.heap.size, 0, none⟩ 1 1 [.int .i64 yo, .int .i64 yd, .int .i64 ya, .int .i64 yb, .slice o4 l4 c4'] rfl rfl (new_cells w2 _ _) (by intro u hu; simp only [List.mem_cons, List.not_mem_nil, or_false] at hu; rcases hu with rfl | rfl | rfl | rfl | rfl <;> rfl) (by unfold maxLen; omega) (by omega) (by simp; omega) ?_)
              intro v' w3 hown' hgrow _
              have HG := Lib.hid (grown_trans (World.grownBy_alloc w2 _ u9.ownBlock) hgrow)
              have HN := Lib.hid (show Wo2 gone code w lo hi B k (j + 1) v' w3 from by
                have hne0 : some w.heap.size ≠ u9.ownBlock := fun e => by have := HROW.out _ e.symm; omega
                have hne1 : some (w.heap.size + 1) ≠ u9.ownBlock := fun e => by have := HROW.out _ e.symm; omega
                refine ⟨xs ++ [.int .i64 yo, .int .i64 yd, .int .i64 ya, .int .i64 yb, .slice o4 l4 c4'], HB2.out.grown HG.out hs2 (fun g hg => by have := HROW.out g hg; omega), (keepR HW2.out HR.out).of_block (HG.out.block _ (keepR HW2.out HR.out).lt hne0), (HG.out.block _ h52 hne1).trans (H5.out.keep HW2.out), ?_, ?_⟩
                · rw [HWS.out, List.length_append]; exact hown'
                · rw [HWS.out]; exact CellsG.snoc rfl HIN.out HCS.out)
              clear hown' hgrow
              go_wp2_with fail
              go_roundg (k - (j + 1))
              case measure => omega
              case rel => exact ⟨j + 1, rfl, by omega, by go_num, HN⟩
        · obtain rfl : j = k := by omega
          have HE := Lib.hid (show SlC (gap wr lo hi) wr.heap.size 5 (InsR (gap wr lo hi) wr.heap.size) (Peep.without gone code) u9 from by
            have e : Peep.without gone code = Peep.wo gone (fun t => (Peep.cnt gone t.toNat : Nat)) code j := by rw [Peep.without, ← HL.out]
            rw [e]
            have h1 := slC_of_row (ownsRow_gap (lo := lo) hown (show hi ≤ w.heap.size + 2 by omega)) (hcs.mono fun x _ cs h => (h.gapKept hb).wider (B' := wr.heap.size) (by have := hb.size; omega))
            rw [gap_size] at h1
            exact h1)
          have HB := Lib.hid hb
          obtain ⟨o9, l9, c9, rfl⟩ := HE.out.form
          clear hb hr hx5 hown hcs HI
          go_wp2_with fail
          go_ret
          exact ⟨_, rfl, HE.out, HB.out⟩
end Go.Proofs.YtdlhocghiaghfaaGreatDoor

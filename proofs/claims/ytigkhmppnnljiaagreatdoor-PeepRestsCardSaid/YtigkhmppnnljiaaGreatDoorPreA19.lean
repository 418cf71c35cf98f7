/-
  What the proofs lean on: Without, FCheck.
-/
import Derived.Deep.OwnRows
import Derived.Deep.LoopGhost
import Derived.Test.YtigkhmppnnljiaaGreatDoorPreA13
import Derived.Test.YtigkhmppnnljiaaGreatDoorPreA18
set_option maxRecDepth 100000
set_option maxHeartbeats 16000000
namespace Go.Proofs.YtigkhmppnnljiaaGreatDoor
section
open Go.RowKit
theorem info_ins : (Tryz.prog.info? 34).map (fun i => (i.zero, i.size, i.bytes)) = some (some (.agg #[.int .i64 0, .int .i64 0, .int .i64 0, .int .i64 0, .slice none 0 0]), 5, 56) := by kernel_rfl
theorem keepR {W W' : World} (hb : Below W.heap.size W W') {b n : Nat} {t : TypeId} {f : Nat → Value} (h : W.rowIs b t n f) : W'.rowIs b t n f := h.of_block (hb.block _ h.lt)
theorem without1_any (t : Nat) (n ab cap tb : Nat) (f : Nat → Int) (w : World) (hr : w.rowIs ab 3 n (fun i => .int .i64 (f i))) (hb : BoxL w tb 32 [.slice (some ⟨ab, 0, none⟩) n cap]) (ht : t < n) (_hm : n ≤ 100000) :
  Calls Tryz.prog 132 #[.int .i64 t, .pointer (some ⟨tb, 0, none⟩)] w fun e w' => e = .returned (.int .i64 (f t)) ∧ w' = w := by
 have c0 := hb.cell 0 rfl
 have c1 := hr.cell ht
 clear hr hb
 go_enter Tryz.func132, Tryz.ntmps132
 go_wp2_with fail
 go_ret
 exact ⟨rfl, rfl⟩
theorem ownsRow_keep {W W' : World} {base n size : Nat} {e : TypeId} {v : Value} {xs : List Value} (h : W.ownsRow base e size v n xs) (hb : Below W.heap.size W W') : W'.ownsRow base e size v n xs :=
 h.kept (row := none) ⟨hb.os, hb.tape, hb.output, hb.size, fun k hk _ => hb.block k hk⟩ (by cases h : v.ownBlock with
  | none => exact .inl rfl
  | some _ => exact .inr (by simp))
def Wo1 (gone : Nat → Bool) (w : World) (len k : Nat) (wr : World) : Prop :=
 Below w.heap.size w wr ∧ wr.rowIs w.heap.size 3 len (fun i => .int .i64 (if i < k then (Peep.cnt gone i : Nat) else 0 : Int)) ∧ BoxL wr (w.heap.size + 1) 32 [.slice (some ⟨w.heap.size, 0, none⟩) len len]
def Wo2 (gone : Nat → Bool) (code : List Ins) (w : World) (lo hi B len k : Nat) (v : Value) (wr : World) : Prop :=
 ∃ xs, Below w.heap.size w wr ∧ wr.rowIs w.heap.size 3 len (fun i => .int .i64 (Peep.cnt gone i : Nat)) ∧ BoxL wr (w.heap.size + 1) 32 [.slice (some ⟨w.heap.size, 0, none⟩) len len] ∧
  wr.ownsRow (w.heap.size + 2) 34 5 v (Peep.wo gone (fun t => (Peep.cnt gone t.toNat : Nat)) code k).length xs ∧ CellsG 5 (InsR (gap w lo hi) B) (Peep.wo gone (fun t => (Peep.cnt gone t.toNat : Nat)) code k) xs
theorem SlC.cells {α : Type} {w w' : World} {B size : Nat} {R R' : α → List Value → Prop} {l : List α} {v : Value} (h : SlC w B size R l v) (hk : ∀ b o u, w.cell? ⟨b, o, none⟩ = some u → w'.cell? ⟨b, o, none⟩ = some u) (hR : ∀ x ∈ l, ∀ cs, R x cs → R' x cs) : SlC w' B size R' l v := by
 obtain ⟨o, len, cap, rfl, h1, h2, h3, h4⟩ := h
 refine ⟨o, len, cap, rfl, h1, h2, h3, ?_⟩
 cases o with
 | none => exact h4
 | some a =>
  refine ⟨h4.1, fun i x hx => ?_⟩
  obtain ⟨cs, hl, hc, hr⟩ := h4.2 i x hx
  exact ⟨cs, hl, fun j u hu => hk _ _ _ (hc j u hu), hR x (List.mem_of_getElem? hx) cs hr⟩
theorem InsR.cells {w w' : World} {B : Nat} {x : Ins} {cs : List Value} (h : InsR w B x cs) (hk : ∀ b o u, w.cell? ⟨b, o, none⟩ = some u → w'.cell? ⟨b, o, none⟩ = some u) : InsR w' B x cs := by
 obtain ⟨sl, h0, h1, h2, h3, h4, h5⟩ := h
 exact ⟨sl, h0, h1, h2, h3, h4, h5.cells hk fun _ _ _ h => h⟩
theorem gap_heap {W : World} {lo hi c : Nat} (h : ¬ (lo ≤ c ∧ c < hi)) : (gap W lo hi).heap[c]? = W.heap[c]? := by
 simp only [gap, Array.getElem?_mapIdx]
 simp only [if_neg h, Option.map_id_fun', id]
theorem gap_size (W : World) (lo hi : Nat) : (gap W lo hi).heap.size = W.heap.size := by simp [gap]
theorem ownsRow_gap {W : World} {base n size lo hi : Nat} {e : TypeId} {v : Value} {xs : List Value} (h : W.ownsRow base e size v n xs) (hb : hi ≤ base) : (gap W lo hi).ownsRow base e size v n xs := by
 refine ⟨h.1, ?_⟩
 rcases h.2 with h' | ⟨g, cap, cur, h1, h2, h3, h4⟩
 ·exact .inl h'
 ·exact .inr ⟨g, cap, cur, h1, h2, by rw [gap_heap (by omega)]; exact h3, h4⟩
theorem gap_keeps {w w' : World} {lo hi B : Nat} (hb : Below B w w') (b o : Nat) (u : Value) (hB : b < B) (h : (gap w lo hi).cell? ⟨b, o, none⟩ = some u) : (gap w' lo hi).cell? ⟨b, o, none⟩ = some u := by
 obtain ⟨h1, h2⟩ := gap_some h
 rw [gap_other h1]
 exact (hb.cell (p := ⟨b, o, none⟩) hB).trans h2
theorem InsR.gapKept {w w' : World} {lo hi B : Nat} {x : Ins} {cs : List Value} (h : InsR (gap w lo hi) B x cs) (hb : Below w.heap.size w w') : InsR (gap w' lo hi) B x cs :=
 h.cells fun b o u hc => gap_keeps hb b o u (cell_lt (gap_some hc).2) hc
theorem grown_trans {A B C : World} {row : Option Nat} (h : A.grownBy B row) (h' : B.grownBy C row) : A.grownBy C row :=
 ⟨h'.os.trans h.os, h'.tape.trans h.tape, h'.output.trans h.output, Nat.le_trans h.size h'.size, fun k hk hne => (h'.block k (Nat.lt_of_lt_of_le hk h.size) hne).trans (h.block k hk hne)⟩
theorem mapT_ins {w : World} {B : Nat} {x : Ins} {c0 c1 c2 c3 c4 : Value} {g : Int → Int} (h : InsR w B x [c0, c1, c2, c3, c4]) (hga : x.op = 15 → 0 ≤ g x.a ∧ g x.a ≤ 9223372036854775807) (hgb : x.op = 16 → 0 ≤ g x.b ∧ g x.b ≤ 9223372036854775807) : InsR w B (Peep.mapT g x) [.int .i64 (Peep.mapT g x).op, .int .i64 (Peep.mapT g x).d, .int .i64 (Peep.mapT g x).a, .int .i64 (Peep.mapT g x).b, c4] := by
 obtain ⟨sl, he, h1, h2, h3, h4, h5⟩ := h
 simp only [List.cons.injEq, and_true] at he
 obtain ⟨_, _, _, _, rfl⟩ := he
 refine ⟨c4, rfl, ?_⟩
 unfold Peep.mapT
 split
 ·rename_i h
  have := hga h
  exact ⟨h1, h2, by dsimp only; omega, h4, h5⟩
 ·split
  ·rename_i h
   have := hgb h
   exact ⟨h1, h2, h3, by dsimp only; omega, h5⟩
  ·exact ⟨h1, h2, h3, h4, h5⟩
theorem wo_step {gone : Nat → Bool} {g : Int → Int} {code : List Ins} {j : Nat} {x : Ins} (h : code[j]? = some x) : Peep.wo gone g code (j + 1) = if gone j then Peep.wo gone g code j else Peep.wo gone g code j ++ [Peep.mapT g x] := by
 rw [Peep.wo, h]; cases gone j <;> simp
theorem wo_length_le (gone : Nat → Bool) (g : Int → Int) (code : List Ins) : ∀ j, (Peep.wo gone g code j).length ≤ j
 | 0 => by simp [Peep.wo]
 | j + 1 => by
  have := wo_length_le gone g code j
  rw [Peep.wo, List.length_append]
  cases code[j]? with
  | none => simp; omega
  | some x => simp only; split <;> simp <;> omega
theorem without_gap (F : FuncId) (caps : Array Value) (gone : Nat → Bool) (code : List Ins) (o : Option Addr) (len cap : Nat) (lo hi B : Nat) (w : World) (hg : SlC (gap w lo hi) B 5 (InsR (gap w lo hi) B) code (.slice o len cap)) (hh : hi ≤ w.heap.size) (hB : B ≤ w.heap.size) (hm : code.length ≤ 100000)
  (hF : ∀ (args : Array Value) (w : World), (callFunc F args).run Tryz.prog w = .ok (.enter F args) w) (ht : ∀ x ∈ code, (x.op = 15 → 0 ≤ x.a ∧ x.a < (code.length : Int)) ∧ (x.op = 16 → 0 ≤ x.b ∧ x.b < (code.length : Int)))
  (H : ∀ (k : Nat) (x : Ins) (c0 c1 c2 c3 c4 : Value) (W : World), code[k]? = some x → InsR w B x [c0, c1, c2, c3, c4] → Below w.heap.size w W → Calls Tryz.prog F (#[.int .i64 k, .agg #[c0, c1, c2, c3, c4]] ++ caps) W fun e w' => e = .returned (.bool (gone k)) ∧ Below W.heap.size W w') :
  Calls Tryz.prog 89 #[.slice o len cap, .func (.func F) #[] caps] w fun e w' => ∃ v, e = .returned v ∧ SlC (gap w' lo hi) w'.heap.size 5 (InsR (gap w' lo hi) w'.heap.size) (Peep.without gone code) v ∧ Below w.heap.size w w' := by
 have hv : SlC w B 5 (InsR w B) code (.slice o len cap) := hg.cells (fun _ _ _ h => (gap_some h).2) fun _ _ _ h => h.cells fun _ _ _ h => (gap_some h).2
 have HGAP := Lib.hid hg
 obtain ⟨hlen, hcap, hmax⟩ := hv.lens
 have HL := Lib.hid hlen
 have HV := Lib.hid hv
 have HT := Lib.hid ht
 have HH := Lib.hid H
 have hm' : len ≤ 100000 := by omega
 have hmk := run_make_row' (P := Tryz.prog) 32 3 (.int .i64 0) 8 Tryz.underlying32 info_int rfl .i64 .i64 len (by omega) (by omega)
 have HI0 := Lib.hid (show Wo1 gone w len 0 ((w.alloc (.cells (madeCells #[.int .i64 0] len) 3)).alloc (.cells #[.slice (some ⟨w.heap.size, 0, none⟩) len len] 32)) from ⟨(Below.one w _).trans ((Below.one _ _).mono (by simp)), ((World.rowIs_made w (.int .i64 0) len 3).alloc _).congr (by intro i hi; simp), BoxL.new (by simp) _ _⟩)
 clear hlen hv hg ht H hm
 go_enter Tryz.func89, Tryz.ntmps89
 go_wp2_with fail
 go_loopg [6, 17] len (fun g n i wr => ∃ k : Nat, g = len - k ∧ k ≤ len ∧ n = .int .i64 (Peep.cnt gone k : Nat) ∧ i = .int .i64 k ∧ Hid (Wo1 gone w len k wr))
 case atStart => exact ⟨0, rfl, by omega, rfl, rfl, HI0⟩
 case round =>
  obtain ⟨k, rfl, hk, rfl, rfl, HI⟩ := hrel
  obtain ⟨hb, hr, hx5⟩ := HI.out
  have hck := Peep.cnt_le gone k
  by_cases hkl : k < len
  ·obtain ⟨x, hx⟩ : ∃ x, code[k]? = some x := ⟨_, List.getElem?_eq_getElem (by rw [← HL.out]; exact hkl)⟩
   obtain ⟨b1, off1, cs, ho1, hbB, hcl, hcell, hins⟩ := HV.out.at (hb.mono hB) hx
   subst ho1
   match cs, hcl with
   | [c0, c1, c2, c3, c4], _ =>
    have e0 := hcell 0 _ rfl
    have e1 := hcell 1 _ rfl
    have e2 := hcell 2 _ rfl
    have e3 := hcell 3 _ rfl
    have e4 := hcell 4 _ rfl
    rw [Nat.add_zero] at e0
    obtain ⟨op, d, a, b, l⟩ := x
    have HINS := Lib.hid hins
    obtain ⟨sl, he, _, _, _, _, hsl⟩ := hins
    obtain ⟨o4, l4, c4', rfl⟩ := hsl.form
    simp only [List.cons.injEq, and_true] at he
    obtain ⟨rfl, rfl, rfl, rfl, rfl⟩ := he
    have HX := Lib.hid hx
    clear hsl
    skip
    have f0 := hx5.cell 0 rfl
    have r0 := hr.cell hkl
    have rz := hr.frozen k
    have hl0 := hr.lt
    have hl1 := hx5.lt
    simp only [Nat.lt_irrefl, ↓reduceIte] at r0
    have HB := Lib.hid hb
    have HR := Lib.hid hr
    have H5 := Lib.hid hx5
    obtain ⟨q, hq⟩ : ∃ q, gone k = q := ⟨_, rfl⟩
    have HQ := Lib.hid hq
    have hbl := cell_lt e0
    clear hx hcell hb hr hx5 hq
    have HW1 := Lib.hid (show Below w.heap.size w ((wr.setCell ⟨w.heap.size, k, none⟩ (.int .i64 (Peep.cnt gone k : Nat))).alloc (.cells #[.int .i64 op, .int .i64 d, .int .i64 a, .int .i64 b, .slice o4 l4 c4'] 34)) from (HB.out.setCell (p := ⟨w.heap.size, k, none⟩) (Nat.le_refl _) _).alloc (by simpa using HB.out.size) _)
    have HR1 := Lib.hid (show World.rowIs ((wr.setCell ⟨w.heap.size, k, none⟩ (.int .i64 (Peep.cnt gone k : Nat))).alloc (.cells #[.int .i64 op, .int .i64 d, .int .i64 a, .int .i64 b, .slice o4 l4 c4'] 34)) w.heap.size 3 len (fun i => .int .i64 (if i < k + 1 then (Peep.cnt gone i : Nat) else 0 : Int)) from ((HR.out.set k _).alloc _).congr (by
     intro i hi
     by_cases h : i = k
     ·subst h; simp
     ·by_cases h2 : i < k
      ·simp [h, h2, show i < k + 1 by omega]
      ·simp [h, h2, show ¬ i < k + 1 by omega]))
    have H51 := Lib.hid (show BoxL ((wr.setCell ⟨w.heap.size, k, none⟩ (.int .i64 (Peep.cnt gone k : Nat))).alloc (.cells #[.int .i64 op, .int .i64 d, .int .i64 a, .int .i64 b, .slice o4 l4 c4'] 34)) (w.heap.size + 1) 32 [.slice (some ⟨w.heap.size, 0, none⟩) len len] from (H5.out.other _ _ (by simp)).alloc _)
    have HBX := Lib.hid (show BoxL ((wr.setCell ⟨w.heap.size, k, none⟩ (.int .i64 (Peep.cnt gone k : Nat))).alloc (.cells #[.int .i64 op, .int .i64 d, .int .i64 a, .int .i64 b, .slice o4 l4 c4'] 34)) wr.heap.size 34 [.int .i64 op, .int .i64 d, .int .i64 a, .int .i64 b, .slice o4 l4 c4'] from BoxL.new (by simp) _ _)
    go_upto_region 7 with fail
    generalize ((wr.setCell ⟨w.heap.size, k, none⟩ (.int .i64 (Peep.cnt gone k : Nat))).alloc (.cells #[.int .i64 op, .int .i64 d, .int .i64 a, .int .i64 b, .slice o4 l4 c4'] 34)) = W at HW1 HR1 H51 HBX ⊢
    have x0 := HBX.out.cell 0 rfl
    have x1 := HBX.out.cell 1 rfl
    have x2 := HBX.out.cell 2 rfl
    have x3 := HBX.out.cell 3 rfl
    have x4 := HBX.out.cell 4 rfl
    clear HB HR H5 f0 r0 rz e0 e1 e2 e3 e4
    have HC := Lib.hid (HH.out k _ _ _ _ _ _ W HX.out HINS.out HW1.out)
    rw [HQ.out] at HC
    go_wp2_with fail
    with_reducible refine HC.out.mono ?_
    rintro e w1 ⟨rfl, hb1⟩
    have HN := Lib.hid (show Wo1 gone w len (k + 1) w1 from ⟨HW1.out.trans (hb1.mono HW1.out.size), keepR hb1 HR1.out, H51.out.keep hb1⟩)
    clear hb1 HC HW1 HR1 H51 HBX x0 x1 x2 x3 x4
    cases q with
    | true =>
     have HCN := Lib.hid (show Peep.cnt gone (k + 1) = Peep.cnt gone k from by rw [Peep.cnt, HQ.out]; simp)
     go_wp2_with fail
     go_roundg (len - (k + 1))
     case measure => omega
     case rel => exact ⟨k + 1, rfl, by omega, by rw [HCN.out], by go_num, HN⟩
    | false =>
     have HCN := Lib.hid (show Peep.cnt gone (k + 1) = Peep.cnt gone k + 1 from by rw [Peep.cnt, HQ.out]; simp)
     go_wp2_with fail
     go_roundg (len - (k + 1))
     case measure => omega
     case rel => exact ⟨k + 1, rfl, by omega, by rw [HCN.out]; go_num, by go_num, HN⟩
  ·obtain rfl : k = len := by omega
   have HI2 := Lib.hid (show Wo2 gone code w lo hi B k 0 (.slice none 0 0) wr from ⟨[], hb, hr.congr (by intro i hi; simp [hi]), hx5, World.ownsRow_nil _ _ _ _, rfl⟩)
   clear HI0 hb hr hx5 HI hck hkl hk
   go_wp2_with fail
   go_loopg [9, 36] k (fun g v i wr => ∃ j : Nat, g = k - j ∧ j ≤ k ∧ i = .int .i64 j ∧ Hid (Wo2 gone code w lo hi B k j v wr))
   case atStart => exact ⟨0, rfl, by omega, rfl, HI2⟩
   case round =>
    obtain ⟨j, rfl, hj, rfl, HI⟩ := hrel
    clear HI2
    obtain ⟨xs, hb, hr, hx5, hown, hcs⟩ := HI.out
    by_cases hjl : j < k
    ·obtain ⟨x, hx⟩ : ∃ x, code[j]? = some x := ⟨_, List.getElem?_eq_getElem (by rw [← HL.out]; exact hjl)⟩
     obtain ⟨b1, off1, cs, ho1, hbB, hcl, hcell0, hing⟩ := HGAP.out.at (Below.refl _ _) hx
     have hins := hing.cells (w' := w) (fun _ _ _ h => (gap_some h).2)
     have HING := Lib.hid hing
     have hcell : ∀ q u, cs[q]? = some u → wr.cell? ⟨b1, off1 + j * 5 + q, none⟩ = some u := fun q u hu => (hb.cell (p := ⟨b1, off1 + j * 5 + q, none⟩) (Nat.lt_of_lt_of_le hbB hB)).trans (gap_some (hcell0 q u hu)).2
     subst ho1
     clear hing hcell0
     match cs, hcl with
     | [c0, c1, c2, c3, c4], _ =>
      have e0 := hcell 0 _ rfl
      have e1 := hcell 1 _ rfl
      have e2 := hcell 2 _ rfl
      have e3 := hcell 3 _ rfl
      have e4 := hcell 4 _ rfl
      rw [Nat.add_zero] at e0
      have HXX := Lib.hid hx
      obtain ⟨op, d, a, b, l⟩ := x
      have HINS := Lib.hid hins
      obtain ⟨sl, he, _, _, _, _, hsl⟩ := hins
      obtain ⟨o4, l4, c4', rfl⟩ := hsl.form
      simp only [List.cons.injEq, and_true] at he
      obtain ⟨rfl, rfl, rfl, rfl, rfl⟩ := he
      clear hsl
      have HB := Lib.hid hb
      have HR := Lib.hid hr
      have H5 := Lib.hid hx5
      have HO := Lib.hid hown
      have HCS := Lib.hid hcs
      have hsz := hb.size
      obtain ⟨q, hq⟩ : ∃ q, gone j = q := ⟨_, rfl⟩
      have HQ := Lib.hid hq
      have hbl := cell_lt e0
      have HC := Lib.hid (fun X => HH.out j _ _ _ _ _ _ (wr.alloc X) hx HINS.out (HB.out.alloc HB.out.size X))
      rw [HQ.out] at HC
      have HBN := Lib.hid (BoxL.new (W := wr) rfl 34 [.int .i64 op, .int .i64 d, .int .i64 a, .int .i64 b, .slice o4 l4 c4'])
      clear hx hcell hb hr hx5 hown hcs hq HI
      go_wp2_with fail
      with_reducible refine (HC.out _).mono ?_
      rintro e w1 ⟨rfl, hb1⟩
      have HB1 := Lib.hid (Below.next HB.out (one_below hb1))
      have HW := Lib.hid (one_below hb1)
      have HX := Lib.hid (HBN.out.keep hb1)
      have hs1 := HB1.out.size
      clear hb1 HC HBN e0 e1 e2 e3 e4
      cases q with
      | true =>
       have HN := Lib.hid (show Wo2 gone code w lo hi B k (j + 1) u9 w1 from by
        have e : Peep.wo gone (fun t => (Peep.cnt gone t.toNat : Nat)) code (j + 1) = Peep.wo gone (fun t => (Peep.cnt gone t.toNat : Nat)) code j := by rw [wo_step HXX.out, HQ.out]; rfl
        refine ⟨xs, HB1.out, keepR HW.out HR.out, H5.out.keep HW.out, ?_, ?_⟩
        ·rw [e]; exact ownsRow_keep HO.out HW.out
        ·rw [e]; exact HCS.out)
       go_wp2_with fail
       go_roundg (k - (j + 1))
       case measure => omega
       case rel => exact ⟨j + 1, rfl, by omega, by go_num, HN⟩
      | false =>
       have hT := HT.out _ (List.mem_of_getElem? HXX.out)
       have HNM := Lib.hid (pnamed_any 132 #[.pointer (some ⟨w.heap.size + 1, 0, none⟩)] (fun t => (Peep.cnt gone t.toNat : Nat)) _ _ _ _ _ _ B w1 (HINS.out.kept (HB1.out.mono hB)) (fun _ _ => rfl) (fun t W h hW => by
        have h2 : 0 ≤ t ∧ t < (code.length : Int) := by
         rcases h with ⟨h, rfl⟩ | ⟨h, rfl⟩
         ·exact hT.1 h
         ·exact hT.2 h
        obtain ⟨n, rfl⟩ : ∃ n : Nat, t = n := ⟨t.toNat, by omega⟩
        have h3 : n < k := by rw [HL.out]; omega
        exact (without1_any n k w.heap.size k (w.heap.size + 1) (fun i => (Peep.cnt gone i : Nat)) W (keepR hW (keepR HW.out HR.out)) ((H5.out.keep HW.out).keep hW) h3 hm').mono fun e w' h => ⟨by rw [h.1]; simp, by rw [h.2]; exact Below.refl _ _⟩))
       have HIN := Lib.hid (mapT_ins (g := fun t => (Peep.cnt gone t.toNat : Nat)) HING.out (fun h => by have h1 := Peep.cnt_le gone a.toNat; have h2 := hT.1 h; have h3 := HL.out; dsimp only at *; omega) (fun h => by have h1 := Peep.cnt_le gone b.toNat; have h2 := hT.2 h; have h3 := HL.out; dsimp only at *; omega))
       have HWS := Lib.hid (show Peep.wo gone (fun t => (Peep.cnt gone t.toNat : Nat)) code (j + 1) = Peep.wo gone (fun t => (Peep.cnt gone t.toNat : Nat)) code j ++ [Peep.mapT (fun t => (Peep.cnt gone t.toNat : Nat)) ⟨op, d, a, b, l⟩] from by rw [wo_step HXX.out, HQ.out]; rfl)
       obtain ⟨y, hy⟩ : ∃ y, Peep.mapT (fun t => (Peep.cnt gone t.toNat : Nat)) ⟨op, d, a, b, l⟩ = y := ⟨_, rfl⟩
       rw [hy] at HNM HIN HWS
       obtain ⟨yo, yd, ya, yb, yl⟩ := y
       unfold InsV at HNM
       have hwl := wo_length_le gone (fun t => (Peep.cnt gone t.toNat : Nat)) code j
       have x0 := HX.out.cell 0 rfl
       have x1 := HX.out.cell 1 rfl
       have x2 := HX.out.cell 2 rfl
       have x3 := HX.out.cell 3 rfl
       have x4 := HX.out.cell 4 rfl
       clear hy hT
       go_wp2_with fail
       with_reducible refine HNM.out.mono ?_
       rintro e w2 ⟨rfl, hb2⟩
       have HB2 := Lib.hid (Below.next HB1.out hb2)
       have HW2 := Lib.hid (Below.next HW.out hb2)
       have hs2 := HB2.out.size
       have HO2 := Lib.hid (ownsRow_keep HO.out HW2.out)
       have hrow : ∀ g, u9.ownBlock = some g → w.heap.size + 2 ≤ g := fun g hg => (HO.out.lt g hg).1
       have HROW := Lib.hid hrow
       have h52 := (H5.out.keep HW2.out).lt
       clear hb2 HNM x0 x1 x2 x3 x4 hrow
       obtain ⟨i0, hi0, hz0, hz1, hz2⟩ := info_parts info_ins
       go_wp2_with (at_builtin; refine wpList_append_own _ rfl _ _ 28 rfl (w.heap.size + 2) 34 i0 (.agg #[.int .i64 0, .int .i64 0, .int .i64 0, .int .i64 0, .slice none 0 0]) 5 56 Tryz.underlying28 hi0 hz0 hz1 hz2 rfl (by decide) u9 _ xs rfl (HO2.out.alloc _) ⟨w2.heap.size, 0, none⟩ 1 1 [.int .i64 yo, .int .i64 yd, .int .i64 ya, .int .i64 yb, .slice o4 l4 c4'] rfl rfl (new_cells w2 _ _) (by intro u hu; simp only [List.mem_cons, List.not_mem_nil, or_false] at hu; rcases hu with rfl | rfl | rfl | rfl | rfl <;> rfl) (by unfold maxLen; omega) (by omega) (by simp; omega) ?_)
       intro v' w3 hown' hgrow _
       have HG := Lib.hid (grown_trans (World.grownBy_alloc w2 _ u9.ownBlock) hgrow)
       have HN := Lib.hid (show Wo2 gone code w lo hi B k (j + 1) v' w3 from by
        have hne0 : some w.heap.size ≠ u9.ownBlock := fun e => by have := HROW.out _ e.symm; omega
        have hne1 : some (w.heap.size + 1) ≠ u9.ownBlock := fun e => by have := HROW.out _ e.symm; omega
        refine ⟨xs ++ [.int .i64 yo, .int .i64 yd, .int .i64 ya, .int .i64 yb, .slice o4 l4 c4'], HB2.out.grown HG.out hs2 (fun g hg => by have := HROW.out g hg; omega), (keepR HW2.out HR.out).of_block (HG.out.block _ (keepR HW2.out HR.out).lt hne0), (HG.out.block _ h52 hne1).trans (H5.out.keep HW2.out), ?_, ?_⟩
        ·rw [HWS.out, List.length_append]; exact hown'
        ·rw [HWS.out]; exact CellsG.snoc rfl HIN.out HCS.out)
       clear hown' hgrow
       go_wp2_with fail
       go_roundg (k - (j + 1))
       case measure => omega
       case rel => exact ⟨j + 1, rfl, by omega, by go_num, HN⟩
    ·obtain rfl : j = k := by omega
     have HE := Lib.hid (show SlC (gap wr lo hi) wr.heap.size 5 (InsR (gap wr lo hi) wr.heap.size) (Peep.without gone code) u9 from by
      have e : Peep.without gone code = Peep.wo gone (fun t => (Peep.cnt gone t.toNat : Nat)) code j := by rw [Peep.without, ← HL.out]
      rw [e]
      have h1 := slC_of_row (ownsRow_gap (lo := lo) hown (show hi ≤ w.heap.size + 2 by omega)) (hcs.mono fun x _ cs h => (h.gapKept hb).wider (B' := wr.heap.size) (by have := hb.size; omega))
      rw [gap_size] at h1
      exact h1)
     have HB := Lib.hid hb
     obtain ⟨o9, l9, c9, rfl⟩ := HE.out.form
     clear hb hr hx5 hown hcs HI
     go_wp2_with fail
     go_ret
     exact ⟨_, rfl, HE.out, HB.out⟩
end
section
open Go.RowKit
theorem dright_to' (x : Dat) (v : Value) (B : Nat) (w : World) (r : Bool) (hr : Dat.right x 0 = r) (hv : RepD w B x v) (hB : B ≤ w.heap.size) :
  Calls Tryz.prog 31 #[v] w fun e w' => e = .returned (.bool r) ∧ Below w.heap.size w w' := by
 rw [← hr]; exact dright_any x v B w hv hB
theorem check1_to (x : Dat) (v : Value) (B : Nat) (w : World) (hv : RepD w B x v) (hB : B ≤ w.heap.size) :
  Calls Tryz.prog 30 #[v] w fun e w' => e = .returned (.bool (!Dat.right x 0)) ∧ Below w.heap.size w w' := by
 obtain ⟨k, n, d, s, o, len, cap, rfl⟩ := agg_of hv
 obtain ⟨r, hr⟩ : ∃ r, Dat.right x 0 = r := ⟨_, rfl⟩
 rw [hr]
 have HC := Lib.hid (fun X => dright_to' x _ B (w.alloc X) r hr (hv.kept ((Below.one w X).mono hB)) (by simp; omega))
 clear hr hv
 go_enter Tryz.func30, Tryz.ntmps30
 go_wp2_with fail
 refine (HC.out _).mono ?_
 rintro e w1 ⟨rfl, hb1⟩
 go_wp2_with fail
 go_ret
 exact ⟨rfl, one_below hb1⟩
theorem check2_to (x : Ins) (c0 c1 c2 c3 c4 : Value) (args regs : Int) (rest : Bool) (oc oa ok op : Option Addr) (lc cc la ca lk ck lp cp : Nat) (B pb ub : Nat) (w : World) (hx : InsR w B x [c0, c1, c2, c3, c4]) (hB : B ≤ w.heap.size)
  (hp : BoxL w pb 31 [.int .i64 args, .bool rest, .int .i64 regs, .slice oc lc cc, .slice oa la ca]) (hu : BoxL w ub 25 [.slice ok lk ck, .slice op lp cp]) :
  Calls Tryz.prog 33 #[.agg #[c0, c1, c2, c3, c4], .pointer (some ⟨pb, 0, none⟩), .pointer (some ⟨ub, 0, none⟩)] w fun e w' => e = .returned (.bool (!Unt.fits x regs lc lp lk)) ∧ Below w.heap.size w w' := by
 obtain ⟨k, d, a, b, l⟩ := x
 obtain ⟨sl, he, _, _, ha, _, hl⟩ := hx
 simp only [List.cons.injEq, and_true] at he
 obtain ⟨rfl, rfl, rfl, rfl, rfl⟩ := he
 obtain ⟨o, len, cap, rfl⟩ := hl.form
 obtain ⟨r, hr⟩ : ∃ r, Unt.fits ⟨k, d, a, b, l⟩ regs lc lp lk = r := ⟨_, rfl⟩
 rw [hr]
 have HC := Lib.hid (fun X => fits_any k d a b l o len cap args regs rest oc oa ok op lc cc la ca lk ck lp cp B (w.alloc X) ha (hl.kept ((Below.one w X).mono hB) fun _ _ _ h => h) (by simp; omega) r hr)
 have p0 := hp.cell 0 rfl
 have p1 := hp.cell 1 rfl
 have p2 := hp.cell 2 rfl
 have p3 := hp.cell 3 rfl
 have p4 := hp.cell 4 rfl
 have u0 := hu.cell 0 rfl
 have u1 := hu.cell 1 rfl
 have z0 := hp.lt
 have z1 := hu.lt
 dsimp only at p0 p1 p2 p3 p4 u0 u1 ha
 clear hr hl hp hu
 go_enter Tryz.func33, Tryz.ntmps33
 go_wp2_with fail
 refine (HC.out _).mono ?_
 rintro e w1 ⟨rfl, hb1⟩
 go_wp2_with fail
 go_ret
 exact ⟨rfl, one_below hb1⟩
theorem procsB_step {nk np : Int} {l : List Proc} {j : Nat} {p : Proc} {all : Int} (h : l[j]? = some p) : Unt.procsB nk np (l.drop j) all = (Unt.headB p && (decide (all + p.code.length ≤ 50000) && (Unt.lastB (Unt.lastOp p.code) && (p.code.all (fun x => Unt.fits x p.regs p.code.length np nk) && Unt.procsB nk np (l.drop (j + 1)) (all + p.code.length))))) := by
 obtain ⟨hj, he⟩ := List.getElem?_eq_some_iff.1 h
 rw [List.drop_eq_getElem_cons hj, he, Unt.procsB]
theorem err_no {u : Unt} (h : u.okB = false) : u.err = 5 := by simp [Unt.err, h]
theorem err_ok {u : Unt} (h : u.okB = true) : u.err = 0 := by simp [Unt.err, h]
theorem lastOp_at {l : List Ins} {x : Ins} {n : Nat} (hn : n = l.length) (hx : l[n - 1]? = some x) : Unt.lastOp l = x.op := by
 subst hn
 rw [Unt.lastOp, List.getLast?_eq_getElem?, hx]
theorem fcheck_any (u : Unt) (v : Value) (B : Nat) (w : World) (hv : UntR w B u v) (hB : B ≤ w.heap.size) :
  Calls Tryz.prog 12 #[v] w fun e w' => e = .returned (.int .i64 u.err) ∧ Below w.heap.size w w' := by
 obtain ⟨cv, pv, rfl, hc, hp⟩ := hv
 obtain ⟨E, hE⟩ : ∃ E, u.err = E := ⟨_, rfl⟩
 rw [hE]
 obtain ⟨op, np, cp, rfl, hnp, hcapp, hmaxp⟩ := hp.slice
 have HCS := Lib.hid hc
 obtain ⟨ok, nk, ck, rfl, hnk, hcapk, hmaxk, _⟩ := hc
 have HP := Lib.hid hp
 have HE := Lib.hid hE
 have HNP := Lib.hid hnp
 have HNK := Lib.hid hnk
 clear hp hE hnp hnk
 have HNO := Lib.hid (show (∀ h : u.okB = false, E = 5) from fun h => by rw [← HE.out, err_no h])
 by_cases c1 : np < 1
 ·obtain rfl : E = 5 := HNO.out (by rw [Unt.okB, ← HNP.out]; simp; omega)
  obtain rfl : np = 0 := by omega
  go_enter Tryz.func12, Tryz.ntmps12
  go_wp2_with fail
  go_ret
  exact ⟨rfl, Below.one _ _⟩
 by_cases c2 : 1000 < np
 ·obtain rfl : E = 5 := HNO.out (by rw [Unt.okB, ← HNP.out]; simp; omega)
  go_enter Tryz.func12, Tryz.ntmps12
  go_wp2_with fail
  go_ret
  exact ⟨rfl, Below.one _ _⟩
 obtain ⟨rc, hrc⟩ : ∃ rc, u.consts.any (fun x => !Dat.right x 0) = rc := ⟨_, rfl⟩
 have HRC := Lib.hid hrc
 have HC := Lib.hid (fun X => containsFunc_S 30 #[] (fun x => !Dat.right x 0) rc u.consts (.slice ok nk ck) B (w.alloc X) (HCS.out.kept ((Below.one w X).mono hB)) (by simp; omega) (fun _ _ => rfl) (fun x _ v W hr hbW => by
  exact check1_to x v B W hr (by have := hbW.size; simp at this; omega)) HRC.out)
 clear hrc
 have c1' : ¬ (np : Int) < 1 := by omega
 have HB0 := Lib.hid (Below.refl (w.heap.size + 1) (w.alloc (.cells #[.slice ok nk ck, .slice op np cp] 25)))
 go_enter Tryz.func12, Tryz.ntmps12
 go_wp2_with fail
 refine (HC.out _).mono ?_
 rintro e w1 ⟨rfl, hb1⟩
 have HB1 := Lib.hid (HB0.out.trans (hb1.mono (by simp)))
 clear hb1 HC
 cases rc with
 | true =>
  obtain rfl : E = 5 := HNO.out (by
   have h1 := HRC.out
   rw [← List.not_all_eq_any_not] at h1
   have h2 : u.consts.all (fun x => Dat.right x 0) = false := by simpa using h1
   rw [Unt.okB, h2]; simp)
  go_wp2_with fail
  go_ret
  exact ⟨rfl, (Below.one w _).trans (HB1.out.mono (by omega))⟩
 | false =>
  have HOK := Lib.hid (show u.okB = Unt.procsB nk np u.procs 0 from by
   have h1 := HRC.out
   rw [← List.not_all_eq_any_not] at h1
   have h2 : u.consts.all (fun x => Dat.right x 0) = true := by simpa using h1
   rw [Unt.okB, h2, ← HNP.out, ← HNK.out, decide_eq_true (show 1 ≤ (np : Int) by omega), decide_eq_true (show (np : Int) ≤ 1000 by omega)]; simp)
  have bu1 : BoxL w1 w.heap.size 25 [.slice ok nk ck, .slice op np cp] := (HB1.out.block _ (by omega)).trans (BoxL.new rfl _ _)
  have q1 := bu1.cell 1 rfl
  have hlt1 := bu1.lt
  clear bu1
  go_wp2_with fail
  go_loopg [3, 26] np (fun g a i wr => ∃ (j : Nat) (all : Int), g = np - j ∧ j ≤ np ∧ a = .int .i64 all ∧ i = .int .i64 j ∧ 0 ≤ all ∧ all ≤ 50000 ∧ Hid (Unt.procsB nk np u.procs 0 = Unt.procsB nk np (u.procs.drop j) all) ∧ Hid (Below (w.heap.size + 1) (w.alloc (.cells #[.slice ok nk ck, .slice op np cp] 25)) wr))
  case atStart => exact ⟨0, 0, rfl, by omega, rfl, rfl, by omega, by omega, rfl, HB1⟩
  case round =>
   obtain ⟨j, all, rfl, hj, rfl, rfl, ha0, ha1, HS, HB⟩ := hrel
   have bu : BoxL wr w.heap.size 25 [.slice ok nk ck, .slice op np cp] := (HB.out.block _ (by omega)).trans (BoxL.new rfl _ _)
   have hlt := bu.lt
   have HBU := Lib.hid bu
   have HBW := Lib.hid (show Below w.heap.size w wr from (Below.one w _).trans (HB.out.mono (by omega)))
   clear bu q1
   by_cases hjl : j < np
   ·obtain ⟨p, hx⟩ : ∃ p, u.procs[j]? = some p := ⟨_, List.getElem?_eq_getElem (by rw [← HNP.out]; exact hjl)⟩
    obtain ⟨b1, off1, cs, ho1, hbB, hcl, hcell, hpr⟩ := HP.out.at (HBW.out.mono hB) hx
    subst ho1
    have HSTEP := Lib.hid (HS.out.trans (procsB_step hx))
    obtain ⟨args, rest, regs, code, alive⟩ := p
    obtain ⟨sl, al, rfl, hbargs, hbregs, hcode, halive⟩ := hpr
    obtain ⟨oc, n, cc, rfl, hn, hcapc, hmaxc⟩ := hcode.slice
    obtain ⟨oa, la, ca, rfl⟩ := halive.form
    dsimp only at hn hbargs hbregs HSTEP hcode
    have e0 := hcell 0 _ rfl
    have e1 := hcell 1 _ rfl
    have e2 := hcell 2 _ rfl
    have e3 := hcell 3 _ rfl
    have e4 := hcell 4 _ rfl
    rw [Nat.add_zero] at e0
    have HN := Lib.hid hn
    have HCODE := Lib.hid hcode
    have HBN := Lib.hid (fun X => (Below.one wr X))
    clear hx hcell hcl hcode halive hn
    have HEND := Lib.hid (show (∀ h : Unt.procsB nk np (u.procs.drop j) all = false, E = 5) from fun h => HNO.out (by rw [HOK.out, HS.out]; exact h))
    have HEND2 := Lib.hid (show (∀ h : Unt.headB ⟨args, rest, regs, code, alive⟩ = false, E = 5) from fun h => HNO.out (by rw [HOK.out, HSTEP.out, h]; rfl))
    have HLN := Lib.hid (show (code.length : Int) = n from by rw [HN.out])
    by_cases h1 : args < 0
    ·obtain rfl : E = 5 := HEND2.out (by simp [Unt.headB, h1])
     go_wp2_with fail
     go_ret
     exact ⟨rfl, HBW.out.alloc (by have := HBW.out.size; omega) _⟩
    by_cases h2 : regs < args
    ·obtain rfl : E = 5 := HEND2.out (by simp [Unt.headB, h2])
     go_wp2_with fail
     go_ret
     exact ⟨rfl, HBW.out.alloc (by have := HBW.out.size; omega) _⟩
    by_cases h3 : 20000 < regs
    ·obtain rfl : E = 5 := HEND2.out (by simp [Unt.headB, h3])
     go_wp2_with fail
     go_ret
     exact ⟨rfl, HBW.out.alloc (by have := HBW.out.size; omega) _⟩
    by_cases h4 : rest = true ∧ args = 0
    ·obtain ⟨rfl, rfl⟩ := h4
     obtain rfl : E = 5 := HEND2.out (by simp [Unt.headB])
     go_wp2_with fail
     go_ret
     exact ⟨rfl, HBW.out.alloc (by have := HBW.out.size; omega) _⟩
    by_cases h5 : n = 0
    ·subst h5
     obtain rfl : E = 5 := HEND2.out (by have := HLN.out; simp [Unt.headB, this])
     cases rest with
     | true =>
      have h4' : (args == 0) = false := by simpa using fun h => h4 ⟨rfl, h⟩
      go_wp2_with fail
      go_ret
      exact ⟨rfl, HBW.out.alloc (by have := HBW.out.size; omega) _⟩
     | false =>
      go_wp2_with fail
      go_ret
      exact ⟨rfl, HBW.out.alloc (by have := HBW.out.size; omega) _⟩
    by_cases h6 : 50000 < n
    ·obtain rfl : E = 5 := HEND2.out (by have := HLN.out; simp [Unt.headB, this]; omega)
     cases rest with
     | true =>
      have h4' : (args == 0) = false := by simpa using fun h => h4 ⟨rfl, h⟩
      go_wp2_with fail
      go_ret
      exact ⟨rfl, HBW.out.alloc (by have := HBW.out.size; omega) _⟩
     | false =>
      go_wp2_with fail
      go_ret
      exact ⟨rfl, HBW.out.alloc (by have := HBW.out.size; omega) _⟩
    have HH := Lib.hid (show Unt.headB ⟨args, rest, regs, code, alive⟩ = true from by
     have h7 := HLN.out
     have h8 : ¬ (code.length : Int) = 0 := by omega
     have h9 : ¬ (50000 : Int) < code.length := by omega
     have hra : (rest && decide (args = 0)) = false := by cases rest <;> simp; intro h; exact h4 ⟨rfl, h⟩
     simp only [Unt.headB, decide_eq_false h1, decide_eq_false h2, decide_eq_false h3, decide_eq_false h8, decide_eq_false h9, hra]; rfl)
    have d1 : decide (args < 0) = false := decide_eq_false h1
    have d2 : decide (regs < args) = false := decide_eq_false h2
    have d3 : decide (20000 < regs) = false := decide_eq_false h3
    have d5 : ((n : Int) == 0) = false := by simpa using h5
    have d6 : decide ((50000 : Int) < (n : Int)) = false := decide_eq_false (by omega)
    obtain ⟨x, hx⟩ : ∃ x, code[n - 1]? = some x := ⟨_, List.getElem?_eq_getElem (by rw [← HN.out]; omega)⟩
    obtain ⟨bc, offc, ds, hoc, hbc, hdl, hdcell, hins⟩ := HCODE.out.at (HBW.out.mono hB) hx
    subst hoc
    obtain ⟨kk, dd, aa, bb, ll⟩ := x
    obtain ⟨sl, rfl, hbk, _, _, _, _⟩ := hins
    have k0 := hdcell 0 _ rfl
    rw [Nat.add_zero] at k0
    dsimp only at k0 hbk
    have HLO := Lib.hid (show Unt.lastOp code = kk from lastOp_at HN.out hx)
    have hkl := cell_lt k0
    have hnpos : 0 < n := by omega
    clear hx hdcell hdl
    have HEND3 := Lib.hid (show (∀ h : (decide (all + n ≤ 50000) && (Unt.lastB kk)) = false, E = 5) from fun h => HNO.out (by
     rw [HOK.out, HSTEP.out, HLN.out, HLO.out, HH.out]
     rcases Bool.and_eq_false_iff.1 h with h | h <;> rw [h] <;> simp))
    by_cases h7 : 50000 < all + n
    ·obtain rfl : E = 5 := HEND3.out (by rw [decide_eq_false (by omega)]; rfl)
     have d7 : decide ((50000 : Int) < all + n) = true := decide_eq_true h7
     cases rest with
     | true =>
      have h4' : (args == 0) = false := by simpa using fun h => h4 ⟨rfl, h⟩
      go_wp2_with fail
      all_goals go_ret
      all_goals exact ⟨rfl, HBW.out.alloc (by have := HBW.out.size; omega) _⟩
     | false =>
      go_wp2_with fail
      all_goals go_ret
      all_goals exact ⟨rfl, HBW.out.alloc (by have := HBW.out.size; omega) _⟩
    have h7' : all + n ≤ 50000 := by omega
    have d7 : decide ((50000 : Int) < all + n) = false := decide_eq_false h7
    by_cases h8 : kk ≠ 15 ∧ (kk < 19 ∨ 22 < kk)
    ·obtain rfl : E = 5 := HEND3.out (by rw [decide_eq_true h7']; simp [Unt.lastB]; omega)
     obtain ⟨h8a, h8b⟩ := h8
     have h8c : (kk != 15) = true := by simpa using h8a
     by_cases h8d : kk < 19
     ·have h8e : decide (kk < 19) = true := decide_eq_true h8d
      cases rest with
      | true =>
       have h4' : (args == 0) = false := by simpa using fun h => h4 ⟨rfl, h⟩
       go_wp2_with fail
       all_goals go_ret
       all_goals exact ⟨rfl, HBW.out.alloc (by have := HBW.out.size; omega) _⟩
      | false =>
       go_wp2_with fail
       all_goals go_ret
       all_goals exact ⟨rfl, HBW.out.alloc (by have := HBW.out.size; omega) _⟩
     ·have h8e : decide (kk < 19) = false := decide_eq_false h8d
      have h8f : decide (22 < kk) = true := decide_eq_true (by omega)
      cases rest with
      | true =>
       have h4' : (args == 0) = false := by simpa using fun h => h4 ⟨rfl, h⟩
       go_wp2_with fail
       all_goals go_ret
       all_goals exact ⟨rfl, HBW.out.alloc (by have := HBW.out.size; omega) _⟩
      | false =>
       go_wp2_with fail
       all_goals go_ret
       all_goals exact ⟨rfl, HBW.out.alloc (by have := HBW.out.size; omega) _⟩
    have HLB := Lib.hid (show Unt.lastB kk = true from by simp [Unt.lastB]; omega)
    have HW8 := Lib.hid h8
    clear h8
    obtain ⟨rf, hrf⟩ : ∃ rf, code.any (fun x => !Unt.fits x regs n np nk) = rf := ⟨_, rfl⟩
    have HRF := Lib.hid hrf
    clear hrf
    have HNEXT := Lib.hid (show (rf = true → E = 5) ∧ (rf = false → Unt.procsB nk np u.procs 0 = Unt.procsB nk np (u.procs.drop (j + 1)) (all + n)) from by
     have h1 := HRF.out
     rw [← List.not_all_eq_any_not] at h1
     have h2 := HSTEP.out
     rw [HLN.out, HLO.out, HH.out, HLB.out, decide_eq_true h7'] at h2
     constructor
     ·rintro rfl
      refine HNO.out (by rw [HOK.out, h2]; simp only [Bool.not_eq_true'] at h1; rw [h1]; rfl)
     ·rintro rfl
      have h3 : (code.all fun x => Unt.fits x regs n np nk) = true := by simpa using h1
      rw [h2, h3]; rfl)
    have hW1 : ∀ X, Below B w (wr.alloc X) := fun X => (HBW.out.mono hB).trans ((Below.one wr X).mono (by have := HBW.out.size; omega))
    have HCF := Lib.hid (containsG_ins (InsR w B) 33 #[.pointer (some ⟨wr.heap.size, 0, none⟩), .pointer (some ⟨w.heap.size, 0, none⟩)] (fun x => !Unt.fits x regs n np nk) rf code (.slice (some ⟨bc, offc, none⟩) n cc) B (wr.alloc (.cells [.int .i64 args, .bool rest, .int .i64 regs, .slice (some ⟨bc, offc, none⟩) n cc, .slice oa la ca].toArray 31)) (HCODE.out.kept (hW1 _) fun _ _ _ h => h) (by have := HBW.out.size; simp; omega) (fun _ _ => rfl) (fun x _ c0 c1 c2 c3 c4 W hR hbW => check2_to x c0 c1 c2 c3 c4 args regs rest (some ⟨bc, offc, none⟩) oa ok (some ⟨b1, off1, none⟩) n cc la ca nk ck np cp B wr.heap.size w.heap.size W (hR.kept ((hW1 _).trans (hbW.mono (by have := HBW.out.size; simp; omega)))) (by have := hbW.size; have := HBW.out.size; simp at *; omega) ((BoxL.new rfl _ _).keep hbW) ((HBU.out.alloc _).keep hbW)) HRF.out)
    clear hW1
    cases rest with
    | true =>
     have h4' : (args == 0) = false := by simpa using fun h => h4 ⟨rfl, h⟩
     have hk : (kk = 15) ∨ (kk ≠ 15 ∧ 19 ≤ kk ∧ kk ≤ 22) := by have := HW8.out; omega
     rcases hk with hk | ⟨hk, hk1, hk2⟩
     ·have e15 : (kk != 15) = false := by simpa using hk
      clear hk
      go_wp2_with fail
      refine HCF.out.mono ?_
      rintro e w2 ⟨rfl, hb2⟩
      have HB2 := Lib.hid (one_below hb2)
      clear hb2
      cases rf with
      | true =>
       obtain rfl : E = 5 := HNEXT.out.1 rfl
       go_wp2_with fail
       go_ret
       exact ⟨rfl, Below.next HBW.out HB2.out⟩
      | false =>
       have HPN := Lib.hid (HNEXT.out.2 rfl)
       go_wp2_with fail
       go_roundg (np - (j + 1))
       case measure => omega
       case rel => exact ⟨j + 1, all + n, rfl, by omega, rfl, by go_num, by omega, by omega, HPN, Lib.hid (HB.out.trans (HB2.out.mono (by omega)))⟩
     ·have e15 : (kk != 15) = true := by simpa using hk
      have e19 : decide (kk < 19) = false := decide_eq_false (by omega)
      have e22 : decide (22 < kk) = false := decide_eq_false (by omega)
      go_wp2_with fail
      refine HCF.out.mono ?_
      rintro e w2 ⟨rfl, hb2⟩
      have HB2 := Lib.hid (one_below hb2)
      clear hb2
      cases rf with
      | true =>
       obtain rfl : E = 5 := HNEXT.out.1 rfl
       go_wp2_with fail
       go_ret
       exact ⟨rfl, Below.next HBW.out HB2.out⟩
      | false =>
       have HPN := Lib.hid (HNEXT.out.2 rfl)
       go_wp2_with fail
       go_roundg (np - (j + 1))
       case measure => omega
       case rel => exact ⟨j + 1, all + n, rfl, by omega, rfl, by go_num, by omega, by omega, HPN, Lib.hid (HB.out.trans (HB2.out.mono (by omega)))⟩
    | false =>
     have hk : (kk = 15) ∨ (kk ≠ 15 ∧ 19 ≤ kk ∧ kk ≤ 22) := by have := HW8.out; omega
     rcases hk with hk | ⟨hk, hk1, hk2⟩
     ·have e15 : (kk != 15) = false := by simpa using hk
      clear hk
      go_wp2_with fail
      refine HCF.out.mono ?_
      rintro e w2 ⟨rfl, hb2⟩
      have HB2 := Lib.hid (one_below hb2)
      clear hb2
      cases rf with
      | true =>
       obtain rfl : E = 5 := HNEXT.out.1 rfl
       go_wp2_with fail
       go_ret
       exact ⟨rfl, Below.next HBW.out HB2.out⟩
      | false =>
       have HPN := Lib.hid (HNEXT.out.2 rfl)
       go_wp2_with fail
       go_roundg (np - (j + 1))
       case measure => omega
       case rel => exact ⟨j + 1, all + n, rfl, by omega, rfl, by go_num, by omega, by omega, HPN, Lib.hid (HB.out.trans (HB2.out.mono (by omega)))⟩
     ·have e15 : (kk != 15) = true := by simpa using hk
      have e19 : decide (kk < 19) = false := decide_eq_false (by omega)
      have e22 : decide (22 < kk) = false := decide_eq_false (by omega)
      go_wp2_with fail
      refine HCF.out.mono ?_
      rintro e w2 ⟨rfl, hb2⟩
      have HB2 := Lib.hid (one_below hb2)
      clear hb2
      cases rf with
      | true =>
       obtain rfl : E = 5 := HNEXT.out.1 rfl
       go_wp2_with fail
       go_ret
       exact ⟨rfl, Below.next HBW.out HB2.out⟩
      | false =>
       have HPN := Lib.hid (HNEXT.out.2 rfl)
       go_wp2_with fail
       go_roundg (np - (j + 1))
       case measure => omega
       case rel => exact ⟨j + 1, all + n, rfl, by omega, rfl, by go_num, by omega, by omega, HPN, Lib.hid (HB.out.trans (HB2.out.mono (by omega)))⟩
   ·obtain rfl : j = np := by omega
    have HT := Lib.hid (show u.okB = true from by rw [HOK.out, HS.out, List.drop_eq_nil_of_le (by rw [← HNP.out]; exact Nat.le_refl _)]; rfl)
    obtain rfl : E = 0 := by rw [← HE.out, err_ok HT.out]
    go_wp2_with fail
    go_ret
    exact ⟨rfl, HBW.out⟩
end
end Go.Proofs.YtigkhmppnnljiaaGreatDoor

/-
  What the proofs lean on: RBind.
-/
import Derived.Test.YtigkhmppnnljiaaGreatDoorPreA29
import Derived.Test.YtigkhmppnnljiaaGreatDoorPreA32
import Derived.Test.YtigkhmppnnljiaaGreatDoorPreA36
set_option maxRecDepth 100000
set_option maxHeartbeats 16000000
namespace Go.Proofs.YtigkhmppnnljiaaGreatDoor
section
open Go Go.RowKit
structure RCk (W : World) (base cb : Nat) (bsl : Value) (nc nk : Int) (fr : Bool) (size : Int) (l : List Int) (ok : Bool) : Prop where
 box : BoxL W cb 114 [.int .i64 3, .int .i64 nc, .int .i64 nk, .bool fr, .int .i64 size, bsl, .bool ok]
 row : W.ownsRow base 3 1 bsl l.length (l.map (Value.int .i64))
 ints : ∀ x ∈ l, I64 x
def SR (cb : Nat) (bsl : Value) (b : Nat) : Prop := b = cb ∨ bsl.ownBlock = some b
theorem RCk.keep {W W' : World} {base cb : Nat} {bsl : Value} {nc nk : Int} {fr : Bool} {size : Int} {l : List Int} {ok : Bool} (h : RCk W base cb bsl nc nk fr size l ok) (hb : Below W.heap.size W W') : RCk W' base cb bsl nc nk fr size l ok := ⟨h.box.keep hb, ownsRow_keep h.row hb, h.ints⟩
theorem RCk.ne {W : World} {base cb : Nat} {bsl : Value} {nc nk : Int} {fr : Bool} {size : Int} {l : List Int} {ok : Bool} (h : RCk W base cb bsl nc nk fr size l ok) : bsl.ownBlock ≠ some cb := fun e => by
 obtain ⟨cs, f, hc⟩ := own_row h.row cb e
 rw [show W.heap[cb]? = _ from h.box] at hc
 simp at hc
theorem RCk.form {W : World} {base cb : Nat} {bsl : Value} {nc nk : Int} {fr : Bool} {size : Int} {l : List Int} {ok : Bool} (h : RCk W base cb bsl nc nk fr size l ok) : ∃ o c, bsl = .slice o l.length c := by
 rcases h.row.2 with ⟨h1, h2⟩ | ⟨g, cap, cur, h1, _⟩
 ·rw [h1]
  have : l.length = 0 := by
   have := h2
   first | exact this | exact this.1 | omega
  rw [this]
  exact ⟨_, _, rfl⟩
 ·exact ⟨_, _, h1⟩
theorem RCk.failed {W : World} {base cb : Nat} {bsl : Value} {nc nk : Int} {fr : Bool} {size : Int} {l : List Int} {ok : Bool} (h : RCk W base cb bsl nc nk fr size l ok) (q : Bool) : RCk (W.setCell ⟨cb, 6, none⟩ (.bool q)) base cb bsl nc nk fr size l q :=
 ⟨h.box.set 6 _, ownsRow_set h.row _ _ (fun r hr e => h.ne (by have e : r = cb := e; rw [← e]; exact hr)), h.ints⟩
theorem bs_int (w : World) (x : Int) : (Instr.buildSlice 32 1 #[(0, .int .i64 x)]).run Tryz.prog w = .ok (.slice (some ⟨w.heap.size, 0, none⟩) 1 1) (w.alloc (.cells #[.int .i64 x] 3)) := by go_simp
def RBiR (base cb j n : Nat) (lj : List Int) (x : Int) (bsl vsl : Value) (ad : Addr) (S : Nat) (i : Nat) (v : Value) (W : World) : Prop := match i with
 | 3 => v = .pointer (some ⟨cb, 5, none⟩)
 | 4 => v = bsl
 | 5 => v = vsl
 | 6 => v = .int .i64 j
 | 7 => v = .pointer (some ad)
 | 8 => v = .int .i64 x
 | 9 => ∃ b, v = .slice (some ⟨b, 0, none⟩) 1 1 ∧ BoxL W b 3 [.int .i64 x]
 | 10 => ∃ (g cap : Nat), v = .slice (some ⟨g, 0, none⟩) (n + 1) cap ∧ W.ownsRow base 3 1 (.slice (some ⟨g, 0, none⟩) (n + 1) cap) (n + 1) (lj.map (Value.int .i64) ++ ([.int .i64 x] : List Value)) ∧ (bsl.ownBlock = some g ∨ S ≤ g)
 | 12 => v = .pointer (some ⟨cb, 5, none⟩)
 | _ => v = .pointer (some ⟨cb, 0, none⟩)
theorem rBiR_const {base cb j n : Nat} {lj : List Int} {x : Int} {bsl vsl : Value} {ad : Addr} {S : Nat} : ∀ i v (A C : World), i ≠ 10 → (i == 9) = false → RBiR base cb j n lj x bsl vsl ad S i v A → RBiR base cb j n lj x bsl vsl ad S i v C := by
 intro i v A C hi hu h
 match i, hi, hu, h with
 | 0, _, _, h | 1, _, _, h | 2, _, _, h | 3, _, _, h | 4, _, _, h | 5, _, _, h | 6, _, _, h | 7, _, _, h | 8, _, _, h | 11, _, _, h | 12, _, _, h | i + 13, _, _, h => exact h
theorem rBiR_kept {base cb j n : Nat} {lj : List Int} {x : Int} {bsl vsl : Value} {ad : Addr} {S : Nat} : ∀ i v (A C : World), i = 9 → RBiR base cb j n lj x bsl vsl ad S i v A → Below A.heap.size A C → RBiR base cb j n lj x bsl vsl ad S i v C := by
 rintro i v A C rfl ⟨b, h1, h2⟩ hb
 exact ⟨b, h1, h2.keep hb⟩
theorem rBiR_app {base cb j n : Nat} {lj : List Int} {x : Int} {bsl vsl : Value} {ad : Addr} {S : Nat} : ∀ v (A C : World), RBiR base cb j n lj x bsl vsl ad S 10 v A → Below A.heap.size A C → RBiR base cb j n lj x bsl vsl ad S 10 v C := by
 rintro v A C ⟨g, cap, h1, h2, h3⟩ hb
 exact ⟨g, cap, h1, ownsRow_keep h2 hb, h3⟩
theorem rbind_end {W5 w1 : World} {base cb n g cap : Nat} {bsl : Value} {nc nk size x : Int} {fr ok : Bool} {lj : List Int} (hc : RCk W5 base cb bsl nc nk fr size lj ok) (ht : Turned (fun b => bsl.ownBlock = some b) W5 w1) (hown : w1.ownsRow base 3 1 (.slice (some ⟨g, 0, none⟩) (n + 1) cap) (n + 1) (lj.map (Value.int .i64) ++ ([.int .i64 x] : List Value))) (hlie : bsl.ownBlock = some g ∨ W5.heap.size ≤ g) (hx : I64 x) (hn : n = lj.length) :
  RCk (w1.setCell ⟨cb, 5, none⟩ (.slice (some ⟨g, 0, none⟩) (n + 1) cap)) base cb (.slice (some ⟨g, 0, none⟩) (n + 1) cap) nc nk fr size (lj ++ [x]) ok ∧ Turned (SR cb bsl) W5 (w1.setCell ⟨cb, 5, none⟩ (.slice (some ⟨g, 0, none⟩) (n + 1) cap)) ∧ ∀ b, b < W5.heap.size → SR cb (.slice (some ⟨g, 0, none⟩) (n + 1) cap) b → SR cb bsl b := by
 have hbx := ht.box hc.box (fun h => hc.ne h)
 refine ⟨⟨hbx.set 5 _, ?_, fun y hy => ?_⟩, (ht.wider fun b _ h => .inr h).next (Turned.set _ _ _ (.inl rfl)), fun b hb h => ?_⟩
 ·have h1 : w1.ownsRow base 3 1 (.slice (some ⟨g, 0, none⟩) (n + 1) cap) (lj ++ [x]).length ((lj ++ [x]).map (Value.int .i64)) := by
   rw [List.length_append, List.map_append, ← hn]
   exact hown
  refine ownsRow_set h1 _ _ (fun r hr e => ?_)
  have e : r = cb := e
  obtain ⟨cs, f, hcc⟩ := own_row h1 r hr
  rw [e, show w1.heap[cb]? = _ from hbx] at hcc
  simp at hcc
 ·rcases List.mem_append.1 hy with hy | hy
  ·exact hc.ints y hy
  ·rw [List.mem_singleton.1 hy]; exact hx
 ·rcases h with h | h
  ·exact .inl h
  ·simp only [Value.ownBlock, Option.some.injEq] at h
   subst h
   rcases hlie with h | h
   ·exact .inr h
   ·omega
theorem newB_snocR {l : List Int} {x : Int} (h : Trm.newB (fun _ => false) l = true) : Trm.newB (fun _ => false) (l ++ [x]) = (decide (0 ≤ x) && (decide (x ≤ 1000000) && !l.contains x)) := by
 rw [Trm.newB_append, h, Bool.true_and, Trm.newB, Trm.newB, Bool.and_true]
 simp [Trm.addV]
def RPost (base cb : Nat) (bsl : Value) (nc nk : Int) (fr : Bool) (size : Int) (q : Bool) (l : List Int) (w : World) (e : Ending) (w' : World) : Prop :=
 e = .returned (.tuple #[]) ∧ ∃ bsl', Turned (SR cb bsl) w w' ∧ (∀ b, b < w.heap.size → SR cb bsl' b → SR cb bsl b) ∧ (q = true → RCk w' base cb bsl' nc nk fr size l true) ∧ (q = false → ∃ size' l', RCk w' base cb bsl' nc nk fr size' l' false)
theorem rbind_any (base cb : Nat) (bsl : Value) (nc nk size : Int) (fr : Bool) (l v : List Int) (ov : Option Addr) (lv cv B : Nat) (w : World) (hc : RCk w base cb bsl nc nk fr size l true) (hv : SlC w B 1 IntR v (.slice ov lv cv)) (hB : B ≤ w.heap.size) (hS : ∀ b, SR cb bsl b → B ≤ b) (hbase : B ≤ base ∧ base ≤ w.heap.size) (hn : Trm.newB (fun _ => false) l = true) :
  Calls Tryz.prog 74 #[.pointer (some ⟨cb, 0, none⟩), .slice ov lv cv] w (RPost base cb bsl nc nk fr size (Trm.newB (fun _ => false) (l ++ v)) (l ++ v) w) := by
 have HC := Lib.hid hc
 have HV := Lib.hid hv
 have HSB := Lib.hid hS
 have HLV := Lib.hid hv.lens.1
 have hlc := hv.lens.2
 have HN := Lib.hid hn
 clear hc hv hS hn
 obtain ⟨q, hq⟩ : ∃ q, Trm.newB (fun _ => false) (l ++ v) = q := ⟨_, rfl⟩
 rw [hq]
 have HQ := Lib.hid hq
 clear hq
 go_enter Tryz.func74, Tryz.ntmps74
 go_wp2_with fail
 go_loopg [4] lv (fun g i wr => ∃ (j : Nat) (bs : Value) (ok : Bool) (lj : List Int), g = lv - j ∧ j ≤ lv ∧ i = .int .i64 j ∧ Hid (RCk wr base cb bs nc nk fr size lj ok) ∧ Hid (ok = true → lj = l ++ v.take j) ∧ Hid (Trm.newB (fun _ => false) (l ++ v.take j) = ok) ∧ Hid (Turned (SR cb bsl) w wr) ∧ Hid (∀ b, b < w.heap.size → SR cb bs b → SR cb bsl b))
 case atStart => exact ⟨0, bsl, true, l, rfl, by omega, rfl, HC, Lib.hid (fun _ => by simp), Lib.hid (by simpa using HN.out), Lib.hid (Turned.refl _ _), Lib.hid (fun _ _ h => h)⟩
 case round =>
  obtain ⟨j, bs, ok, lj, rfl, hj, rfl, HCJ, HLJ, HOK, HT, HSS⟩ := hrel
  have c6 := HCJ.out.box.cell 6 rfl
  have cl := HCJ.out.box.lt
  cases ok with
  | false =>
   obtain rfl : q = false := by
    rw [← HQ.out]
    cases h : Trm.newB (fun _ => false) (l ++ v) with
    | false => rfl
    | true =>
     have h2 : l ++ v = (l ++ v.take j) ++ v.drop j := by rw [List.append_assoc, List.take_append_drop]
     rw [h2] at h
     have h3 := newB_more h
     rw [HOK.out] at h3
     cases h3
   by_cases hjl : j < lv
   ·go_wp2_with fail
    first | go_end0 | skip
    exact ⟨rfl, bs, HT.out, HSS.out, fun h => (by cases h), fun _ => ⟨_, _, HCJ.out⟩⟩
   ·go_wp2_with fail
    first | go_end0 | skip
    exact ⟨rfl, bs, HT.out, HSS.out, fun h => (by cases h), fun _ => ⟨_, _, HCJ.out⟩⟩
  | true =>
   by_cases hjl : j < lv
   ·obtain ⟨x, hx⟩ : ∃ x, v[j]? = some x := ⟨_, List.getElem?_eq_getElem (by rw [← HLV.out]; exact hjl)⟩
    obtain ⟨vb, voff, cs, ho, hvb, hcl, hcell, hir⟩ := HV.out.at (HT.out.below HSB.out hB) hx
    subst ho
    obtain ⟨rfl, hxi⟩ := hir
    have e0 := hcell 0 _ rfl
    simp only [Nat.add_zero, Nat.mul_one] at e0
    have HTK := Lib.hid (show v.take (j + 1) = v.take j ++ [x] by rw [List.take_add_one, hx]; rfl)
    have HXI := Lib.hid hxi
    obtain rfl := HLJ.out rfl
    obtain ⟨ob, cb2, rfl⟩ := HCJ.out.form
    obtain ⟨lj, hlj⟩ : ∃ lj, l ++ v.take j = lj := ⟨_, rfl⟩
    rw [hlj] at HCJ HOK HSS
    obtain ⟨n, hn⟩ : ∃ n, lj.length = n := ⟨_, rfl⟩
    rw [hn] at HCJ HSS
    have HNL := Lib.hid hn
    have hnb : n ≤ 1000001 := by rw [← hn]; exact Trm.newB_short HOK.out
    have HTN := Lib.hid (show l ++ v.take (j + 1) = lj ++ [x] by rw [HTK.out, ← List.append_assoc, hlj])
    have HNB := Lib.hid (newB_snocR (x := x) HOK.out)
    have hvl := cell_lt e0
    have hbw : B ≤ wr.heap.size := Nat.le_trans hB HT.out.size
    have hbs : base ≤ wr.heap.size := Nat.le_trans hbase.2 HT.out.size
    have HSO := Lib.hid (show ∀ b, SR cb (.slice ob n cb2) b → B ≤ b from fun b h => by
     by_cases hb : b < w.heap.size
     ·exact HSB.out b (HSS.out b hb h)
     ·omega)
    have HD := Lib.hid ((Below.refl wr.heap.size wr).drew)
    clear hx hcell hxi hlj hn
    by_cases hbad : x < 0 ∨ (¬ x < 0 ∧ 1000000 < x) ∨ (¬ x < 0 ∧ ¬ 1000000 < x ∧ lj.contains x = true)
    ·rcases hbad with hx0 | ⟨hx0, hx1⟩ | ⟨hx0, hx1, hq2⟩
     case' inl =>
      have fx0 : decide (x < 0) = true := decide_eq_true hx0
      have HNX := Lib.hid (show Trm.newB (fun _ => false) (l ++ v.take (j + 1)) = false from by rw [HTN.out, HNB.out, decide_eq_false (show ¬ 0 ≤ x by omega)]; rfl)
      go_upto_region 3 with fail
      clear c6 cl
      refine wp_region_quiet_all (Below wr.heap.size wr) (by kernel_rfl) (by kernel_rfl) HD.out ?_
      intro T0 _ WW HWW HWW2
      have y0 : ∀ t, (WW t).cell? _ = _ := fun t => ((HWW t).cell (p := ⟨vb, voff + j, none⟩) hvl).trans e0
      have HWH := Lib.hid HWW
      clear HWW HWW2
      repeat (go_big_quiet_step (first | fail | fail))
      refine wpQuiet_nil ?_
      intro t'
      obtain ⟨W5, hW5⟩ : ∃ W5, WW t' = W5 := ⟨_, rfl⟩
      have HB5 := Lib.hid (show Below wr.heap.size wr W5 from hW5 ▸ HWH.out t')
      rw [hW5]
      have HC5 := Lib.hid (HCJ.out.keep HB5.out)
      clear hW5 HWH y0
      have c6 := HC5.out.box.cell 6 rfl
      have cz := HC5.out.box.free 6
      have cl := HC5.out.box.lt
      go_upto_region 5 with fail
      obtain ⟨W6, hW6⟩ : ∃ W6, W5.setCell ⟨cb, 6, none⟩ (.bool false) = W6 := ⟨_, rfl⟩
      have HC6 := Lib.hid (hW6 ▸ HC5.out.failed false)
      have HW6 := Lib.hid (show Turned (fun b => b = cb) wr W6 from hW6 ▸ (Turned.of_below HB5.out).next (Turned.set W5 ⟨cb, 6, none⟩ (.bool false) rfl))
      rw [hW6]
      clear c6 cz cl hW6 HB5 HC5
     case' inr.inl =>
      have fx0 : decide (x < 0) = false := decide_eq_false hx0
      have fx1 : decide (1000000 < x) = true := decide_eq_true hx1
      have HNX := Lib.hid (show Trm.newB (fun _ => false) (l ++ v.take (j + 1)) = false from by rw [HTN.out, HNB.out, decide_eq_false (show ¬ x ≤ 1000000 by omega)]; simp)
      go_upto_region 3 with fail
      clear c6 cl
      refine wp_region_quiet_all (Below wr.heap.size wr) (by kernel_rfl) (by kernel_rfl) HD.out ?_
      intro T0 _ WW HWW HWW2
      have y0 : ∀ t, (WW t).cell? _ = _ := fun t => ((HWW t).cell (p := ⟨vb, voff + j, none⟩) hvl).trans e0
      have HWH := Lib.hid HWW
      clear HWW HWW2
      repeat (go_big_quiet_step (first | fail | fail))
      refine wpQuiet_nil ?_
      intro t'
      obtain ⟨W5, hW5⟩ : ∃ W5, WW t' = W5 := ⟨_, rfl⟩
      have HB5 := Lib.hid (show Below wr.heap.size wr W5 from hW5 ▸ HWH.out t')
      rw [hW5]
      have HC5 := Lib.hid (HCJ.out.keep HB5.out)
      clear hW5 HWH y0
      have c6 := HC5.out.box.cell 6 rfl
      have cz := HC5.out.box.free 6
      have cl := HC5.out.box.lt
      go_upto_region 5 with fail
      obtain ⟨W6, hW6⟩ : ∃ W6, W5.setCell ⟨cb, 6, none⟩ (.bool false) = W6 := ⟨_, rfl⟩
      have HC6 := Lib.hid (hW6 ▸ HC5.out.failed false)
      have HW6 := Lib.hid (show Turned (fun b => b = cb) wr W6 from hW6 ▸ (Turned.of_below HB5.out).next (Turned.set W5 ⟨cb, 6, none⟩ (.bool false) rfl))
      rw [hW6]
      clear c6 cz cl hW6 HB5 HC5
     case' inr.inr =>
      have fx0 : decide (x < 0) = false := decide_eq_false hx0
      have fx1 : decide (1000000 < x) = false := decide_eq_false hx1
      have HNX := Lib.hid (show Trm.newB (fun _ => false) (l ++ v.take (j + 1)) = false from by rw [HTN.out, HNB.out, hq2]; simp)
      go_upto_region 3 with fail
      clear c6 cl
      refine wp_region_quiet_all (Below wr.heap.size wr) (by kernel_rfl) (by kernel_rfl) HD.out ?_
      intro T0 _ WW HWW HWW2
      have y0 : ∀ t, (WW t).cell? _ = _ := fun t => ((HWW t).cell (p := ⟨vb, voff + j, none⟩) hvl).trans e0
      have y5 : ∀ t, (WW t).cell? _ = _ := fun t => ((HWW t).cell (p := ⟨cb, 5, none⟩) HCJ.out.box.lt).trans (HCJ.out.box.cell 5 rfl)
      have HH : Hid (∀ t, Calls Tryz.prog 116 #[.slice ob n cb2, .int .i64 x] (WW t) fun e w' => e = .returned (.bool true) ∧ ∃ t', w' = WW t') := Lib.hid (fun t => calls_class HWW2 (
       (rhas_any lj (.slice ob n cb2) x wr.heap.size (WW t) ((rowInts (by rw [HNL.out]; exact (HNL.out ▸ HCJ.out.row)) HCJ.out.ints).kept (HWW t) fun _ _ _ h => h) (HWW t).size _ hq2).mono fun e w' h => ⟨h.1, ((HWW t).trans (h.2.mono (HWW t).size))⟩))
      have HWH := Lib.hid HWW
      clear HWW HWW2
      repeat (go_big_quiet_step (first | (go_at_call 116; exact HH.out _) | fail))
      refine wpQuiet_nil ?_
      intro t'
      obtain ⟨W5, hW5⟩ : ∃ W5, WW t' = W5 := ⟨_, rfl⟩
      have HB5 := Lib.hid (show Below wr.heap.size wr W5 from hW5 ▸ HWH.out t')
      rw [hW5]
      have HC5 := Lib.hid (HCJ.out.keep HB5.out)
      clear hW5 HWH y0 y5 HH
      have c6 := HC5.out.box.cell 6 rfl
      have cz := HC5.out.box.free 6
      have cl := HC5.out.box.lt
      go_upto_region 5 with fail
      obtain ⟨W6, hW6⟩ : ∃ W6, W5.setCell ⟨cb, 6, none⟩ (.bool false) = W6 := ⟨_, rfl⟩
      have HC6 := Lib.hid (hW6 ▸ HC5.out.failed false)
      have HW6 := Lib.hid (show Turned (fun b => b = cb) wr W6 from hW6 ▸ (Turned.of_below HB5.out).next (Turned.set W5 ⟨cb, 6, none⟩ (.bool false) rfl))
      rw [hW6]
      clear c6 cz cl hW6 HB5 HC5
     all_goals
      have HT6 := Lib.hid (HT.out.next (HW6.out.wider (S' := SR cb bsl) fun b _ h => .inl h))
      have hcb : (Value.slice ob n cb2).ownBlock ≠ some cb := HC6.out.ne
      have HBW := Lib.hid (show Below B wr W6 from HW6.out.below (fun b hb => by rw [hb]; exact HSO.out cb (.inl rfl)) hbw)
      have HXC := Lib.hid (show ∀ w1, Turned (fun b => (Value.slice ob n cb2).ownBlock = some b) W6 w1 → w1.cell? ⟨vb, voff + j, none⟩ = some (.int .i64 x) from fun w1 h => ((h.below (fun b hb => HSO.out b (.inr hb)) (Nat.le_trans hbw HW6.out.size)).cell (p := ⟨vb, voff + j, none⟩) hvb).trans ((HBW.out.cell (p := ⟨vb, voff + j, none⟩) hvb).trans e0))
      have hbs5 : base ≤ W6.heap.size := Nat.le_trans hbs HW6.out.size
      clear HSO HCJ HBW e0 hvl
      have HD5 := Lib.hid ((Below.refl W6.heap.size W6).drew)
      refine wp_region_turnT 11 10 (fun i => i == 9) (RBiR base cb j n lj x (.slice ob n cb2) (.slice (some ⟨vb, voff, none⟩) lv cv) ⟨vb, voff + j, none⟩ W6.heap.size) (fun A C => Turned (fun b => (Value.slice ob n cb2).ownBlock = some b) A C) (fun A C => Below A.heap.size A C) (by kernel_rfl) (by show turnT _ 11 56 10 _ = true; kernel_rfl) (fun h k => h.next k) (fun h k => Below.next h k) (fun _ k => Turned.of_below k) (Turned.refl _ _) (Below.refl _ _) (fun i v A C hi hu h _ => rBiR_const i v A C hi hu h) (fun i v A C hu h hb => rBiR_kept i v A C (by simpa using hu) h hb) (fun v A C h hb => rBiR_app v A C h hb) ?hops ?hend
      case hops =>
       intro i o hi ho a w1 hdf hsz hex hpre hdep hrest
       have HX := Lib.hid (show Turned (fun b => (Value.slice ob n cb2).ownBlock = some b) W6 w1 from (Turned.of_below HD5.out).next hex)
       match i, hi with
       | 0, _ =>
        obtain rfl : _ = o := Option.some.inj ho
        have h0 : a.tmps.getD 0 undef = .pointer (some ⟨cb, 0, none⟩) := hrest.at 0 (by kernel_rfl)
        exact wpList_value (v := .pointer (some ⟨cb, 0, none⟩)) (w' := w1) rfl (by go_simp) ⟨rfl, _, rfl, rfl, Below.refl _ _⟩
       | 1, _ =>
        obtain rfl : _ = o := Option.some.inj ho
        have h0 : a.tmps.getD 0 undef = .pointer (some ⟨cb, 0, none⟩) := hrest.at 0 (by kernel_rfl)
        exact wpList_value (v := .pointer (some ⟨cb, 0, none⟩)) (w' := w1) rfl (by go_simp) ⟨rfl, _, rfl, rfl, Below.refl _ _⟩
       | 2, _ =>
        obtain rfl : _ = o := Option.some.inj ho
        have h44 : a.tmps.getD 44 undef = .pointer (some ⟨cb, 0, none⟩) := dep_at hdep 1 44 (by kernel_rfl)
        exact wpList_value (v := .pointer (some ⟨cb, 0, none⟩)) (w' := w1) rfl (by go_simp) ⟨rfl, _, rfl, rfl, Below.refl _ _⟩
       | 3, _ =>
        obtain rfl : _ = o := Option.some.inj ho
        have h45 : a.tmps.getD 45 undef = .pointer (some ⟨cb, 0, none⟩) := dep_at hdep 2 45 (by kernel_rfl)
        exact wpList_value (v := .pointer (some ⟨cb, 5, none⟩)) (w' := w1) rfl (by go_simp) ⟨rfl, _, rfl, rfl, Below.refl _ _⟩
       | 4, _ =>
        obtain rfl : _ = o := Option.some.inj ho
        have h46 : a.tmps.getD 46 undef = .pointer (some ⟨cb, 5, none⟩) := dep_at hdep 3 46 (by kernel_rfl)
        have hbx := (HX.out.box HC6.out.box hcb)
        have c5 := hbx.cell 5 rfl
        have cl := hbx.lt
        exact wpList_value (v := .slice ob n cb2) (w' := w1) rfl (by go_simp) ⟨rfl, _, rfl, rfl, Below.refl _ _⟩
       | 5, _ =>
        obtain rfl : _ = o := Option.some.inj ho
        have h1 : a.tmps.getD 1 undef = .slice (some ⟨vb, voff, none⟩) lv cv := hrest.at 1 (by kernel_rfl)
        exact wpList_value (v := .slice (some ⟨vb, voff, none⟩) lv cv) (w' := w1) rfl (by go_simp) ⟨rfl, _, rfl, rfl, Below.refl _ _⟩
       | 6, _ =>
        obtain rfl : _ = o := Option.some.inj ho
        have h4 : a.tmps.getD 4 undef = .int .i64 j := hrest.at 4 (by kernel_rfl)
        exact wpList_value (v := .int .i64 j) (w' := w1) rfl (by go_simp) ⟨rfl, _, rfl, rfl, Below.refl _ _⟩
       | 7, _ =>
        obtain rfl : _ = o := Option.some.inj ho
        have h48 : a.tmps.getD 48 undef = .slice (some ⟨vb, voff, none⟩) lv cv := dep_at hdep 5 48 (by kernel_rfl)
        have h49 : a.tmps.getD 49 undef = .int .i64 j := dep_at hdep 6 49 (by kernel_rfl)
        exact wpList_value (v := .pointer (some ⟨vb, voff + j, none⟩)) (w' := w1) rfl (by go_simp) ⟨rfl, _, rfl, rfl, Below.refl _ _⟩
       | 8, _ =>
        obtain rfl : _ = o := Option.some.inj ho
        have h50 : a.tmps.getD 50 undef = .pointer (some ⟨vb, voff + j, none⟩) := dep_at hdep 7 50 (by kernel_rfl)
        have hxc := HXC.out w1 HX.out
        have hxl := cell_lt hxc
        exact wpList_value (v := .int .i64 x) (w' := w1) rfl (by go_simp) ⟨rfl, _, rfl, rfl, Below.refl _ _⟩
       | 9, _ =>
        obtain rfl : _ = o := Option.some.inj ho
        have h51 : a.tmps.getD 51 undef = .int .i64 x := dep_at hdep 8 51 (by kernel_rfl)
        exact wpList_bs1 (v := .slice (some ⟨w1.heap.size, 0, none⟩) 1 1) (w' := w1.alloc (.cells #[.int .i64 x] 3)) rfl rfl h51 (bs_int _ _) ⟨rfl, _, rfl, ⟨_, rfl, BoxL.new rfl _ _⟩, Below.one _ _⟩
       | 10, _ =>
        obtain rfl : _ = o := Option.some.inj ho
        have h47 : a.tmps.getD 47 undef = .slice ob n cb2 := dep_at hdep 4 47 (by kernel_rfl)
        obtain ⟨b9, h52, hb9⟩ : ∃ b, a.tmps.getD 52 undef = .slice (some ⟨b, 0, none⟩) 1 1 ∧ BoxL w1 b 3 [.int .i64 x] := dep_at hdep 9 52 (by kernel_rfl)
        have hrow : w1.ownsRow base 3 1 (.slice ob n cb2) n (lj.map (Value.int .i64)) := ownsRow_keep (by have h := HC6.out.row; rw [HNL.out] at h; exact h) (Below.next HD5.out (hpre rfl))
        obtain ⟨i0, hi0, hz0, hz1, hz2⟩ := info_parts info_int
        refine wpList_append_lies w1 rfl (.tmp 47) (.tmp 52) 32 rfl base 3 i0 (.int .i64 0) 1 8 Tryz.underlying32 hi0 hz0 hz1 hz2 rfl (by decide) (.slice ob n cb2) n (lj.map (Value.int .i64)) h47 hrow ⟨b9, 0, none⟩ 1 1 [.int .i64 x] h52 rfl (box_cells hb9) (by intro u hu; simp only [List.mem_cons, List.not_mem_nil, or_false] at hu; subst hu; rfl) (by decide) (by unfold maxLen; omega) (by omega) (by have := HX.out.size; omega) w1.heap.size rfl ?_
        intro g cap w7 hown7 hgr7 hlie7 hlt7
        exact ⟨rfl, _, rfl, ⟨g, cap, rfl, hown7, hlie7.imp id (fun e => by have := HX.out.size; omega)⟩, Turned.grown hgr7 (fun _ h => h)⟩
      case hend =>
       intro a w1 hdf hsz hex hval hrest
       obtain ⟨g, cap, h53, hown, hlie⟩ : ∃ (g cap : Nat), a.tmps.getD 53 undef = .slice (some ⟨g, 0, none⟩) (n + 1) cap ∧ w1.ownsRow base 3 1 (.slice (some ⟨g, 0, none⟩) (n + 1) cap) (n + 1) (lj.map (Value.int .i64) ++ ([.int .i64 x] : List Value)) ∧ ((Value.slice ob n cb2).ownBlock = some g ∨ W6.heap.size ≤ g) := hval 10 _ 53 (by omega) rfl rfl rfl
       have h43 : a.tmps.getD 43 undef = .pointer (some ⟨cb, 0, none⟩) := hval 0 _ 43 (by omega) rfl rfl rfl
       obtain ⟨f, ha, hf⟩ := act_spell [false, false, false, false, false, false, false, false, false, false, false, false, false, false, false, false, false, false, false, false, false, false, false, false, false, false, false, false, false, false, false, false, false, false, false, false, false, false, false, false, false, false, false, true, true, true, true, true, true, true, true, true, true, true] (by kernel_rfl) hdf hsz hrest
       rw [← hf] at h53 h43
       subst ha
       have HX := Lib.hid (show Turned (fun b => (Value.slice ob n cb2).ownBlock = some b) W6 w1 from (Turned.of_below HD5.out).next hex)
       have hbx := HX.out.box HC6.out.box hcb
       have c5 := hbx.cell 5 rfl
       have cz := hbx.free 5
       have cl := hbx.lt
       have HS5 := Lib.hid (rbind_end HC6.out HX.out hown hlie HXI.out HNL.out.symm)
       clear hval hrest hf hex hbx hown hdf hsz
       simp only [spell, h53, h43, List.drop_succ_cons, List.drop_zero]
       go_wp2_with fail
       go_roundg (lv - (j + 1))
       case measure => omega
       case rel => exact ⟨j + 1, .slice (some ⟨g, 0, none⟩) (n + 1) cap, false, lj ++ [x], rfl, by omega, by go_num, Lib.hid HS5.out.1, Lib.hid (fun _ => HTN.out.symm), HNX, Lib.hid (HT6.out.trans HS5.out.2.1 fun b hb h => HSS.out b hb h), Lib.hid (fun b hb h => HSS.out b hb (HS5.out.2.2 b (Nat.lt_of_lt_of_le hb HT6.out.size) h))⟩
    ·have hx0 : ¬ x < 0 := fun h => hbad (.inl h)
     have hx1 : ¬ 1000000 < x := fun h => hbad (.inr (.inl ⟨hx0, h⟩))
     have hq2 : lj.contains x = false := by
      cases h : lj.contains x with
      | false => rfl
      | true => exact absurd (.inr (.inr ⟨hx0, hx1, h⟩)) hbad
     clear hbad
     have fx0 : decide (x < 0) = false := decide_eq_false hx0
     have fx1 : decide (1000000 < x) = false := decide_eq_false hx1
     have HNX := Lib.hid (show Trm.newB (fun _ => false) (l ++ v.take (j + 1)) = true from by rw [HTN.out, HNB.out, hq2, decide_eq_true (show 0 ≤ x by omega), decide_eq_true (show x ≤ 1000000 by omega)]; rfl)
     go_upto_region 3 with fail
     clear c6 cl
     refine wp_region_quiet_all (Below wr.heap.size wr) (by kernel_rfl) (by kernel_rfl) HD.out ?_
     intro T0 _ WW HWW HWW2
     have y0 : ∀ t, (WW t).cell? _ = _ := fun t => ((HWW t).cell (p := ⟨vb, voff + j, none⟩) hvl).trans e0
     have y5 : ∀ t, (WW t).cell? _ = _ := fun t => ((HWW t).cell (p := ⟨cb, 5, none⟩) HCJ.out.box.lt).trans (HCJ.out.box.cell 5 rfl)
     have HH : Hid (∀ t, Calls Tryz.prog 116 #[.slice ob n cb2, .int .i64 x] (WW t) fun e w' => e = .returned (.bool false) ∧ ∃ t', w' = WW t') := Lib.hid (fun t => calls_class HWW2 (
      (rhas_any lj (.slice ob n cb2) x wr.heap.size (WW t) ((rowInts (by rw [HNL.out]; exact (HNL.out ▸ HCJ.out.row)) HCJ.out.ints).kept (HWW t) fun _ _ _ h => h) (HWW t).size _ hq2).mono fun e w' h => ⟨h.1, ((HWW t).trans (h.2.mono (HWW t).size))⟩))
     have HWH := Lib.hid HWW
     clear HWW HWW2
     repeat (go_big_quiet_step (first | (go_at_call 116; exact HH.out _) | fail))
     refine wpQuiet_nil ?_
     intro t'
     obtain ⟨W5, hW5⟩ : ∃ W5, WW t' = W5 := ⟨_, rfl⟩
     have HB5 := Lib.hid (show Below wr.heap.size wr W5 from hW5 ▸ HWH.out t')
     rw [hW5]
     have HC5 := Lib.hid (HCJ.out.keep HB5.out)
     clear hW5 HWH y0 y5 HH
     go_upto_region 5 with fail
     have HC6 := HC5
     have HW6 := Lib.hid (show Turned (fun b => b = cb) wr W5 from Turned.of_below HB5.out)
     clear HB5 HC5
     have HT6 := Lib.hid (HT.out.next (HW6.out.wider (S' := SR cb bsl) fun b _ h => .inl h))
     have hcb : (Value.slice ob n cb2).ownBlock ≠ some cb := HC6.out.ne
     have HBW := Lib.hid (show Below B wr W5 from HW6.out.below (fun b hb => by rw [hb]; exact HSO.out cb (.inl rfl)) hbw)
     have HXC := Lib.hid (show ∀ w1, Turned (fun b => (Value.slice ob n cb2).ownBlock = some b) W5 w1 → w1.cell? ⟨vb, voff + j, none⟩ = some (.int .i64 x) from fun w1 h => ((h.below (fun b hb => HSO.out b (.inr hb)) (Nat.le_trans hbw HW6.out.size)).cell (p := ⟨vb, voff + j, none⟩) hvb).trans ((HBW.out.cell (p := ⟨vb, voff + j, none⟩) hvb).trans e0))
     have hbs5 : base ≤ W5.heap.size := Nat.le_trans hbs HW6.out.size
     clear HSO HCJ HBW e0 hvl
     have HD5 := Lib.hid ((Below.refl W5.heap.size W5).drew)
     refine wp_region_turnT 11 10 (fun i => i == 9) (RBiR base cb j n lj x (.slice ob n cb2) (.slice (some ⟨vb, voff, none⟩) lv cv) ⟨vb, voff + j, none⟩ W5.heap.size) (fun A C => Turned (fun b => (Value.slice ob n cb2).ownBlock = some b) A C) (fun A C => Below A.heap.size A C) (by kernel_rfl) (by show turnT _ 11 56 10 _ = true; kernel_rfl) (fun h k => h.next k) (fun h k => Below.next h k) (fun _ k => Turned.of_below k) (Turned.refl _ _) (Below.refl _ _) (fun i v A C hi hu h _ => rBiR_const i v A C hi hu h) (fun i v A C hu h hb => rBiR_kept i v A C (by simpa using hu) h hb) (fun v A C h hb => rBiR_app v A C h hb) ?hops ?hend
     case hops =>
      intro i o hi ho a w1 hdf hsz hex hpre hdep hrest
      have HX := Lib.hid (show Turned (fun b => (Value.slice ob n cb2).ownBlock = some b) W5 w1 from (Turned.of_below HD5.out).next hex)
      match i, hi with
      | 0, _ =>
       obtain rfl : _ = o := Option.some.inj ho
       have h0 : a.tmps.getD 0 undef = .pointer (some ⟨cb, 0, none⟩) := hrest.at 0 (by kernel_rfl)
       exact wpList_value (v := .pointer (some ⟨cb, 0, none⟩)) (w' := w1) rfl (by go_simp) ⟨rfl, _, rfl, rfl, Below.refl _ _⟩
      | 1, _ =>
       obtain rfl : _ = o := Option.some.inj ho
       have h0 : a.tmps.getD 0 undef = .pointer (some ⟨cb, 0, none⟩) := hrest.at 0 (by kernel_rfl)
       exact wpList_value (v := .pointer (some ⟨cb, 0, none⟩)) (w' := w1) rfl (by go_simp) ⟨rfl, _, rfl, rfl, Below.refl _ _⟩
      | 2, _ =>
       obtain rfl : _ = o := Option.some.inj ho
       have h44 : a.tmps.getD 44 undef = .pointer (some ⟨cb, 0, none⟩) := dep_at hdep 1 44 (by kernel_rfl)
       exact wpList_value (v := .pointer (some ⟨cb, 0, none⟩)) (w' := w1) rfl (by go_simp) ⟨rfl, _, rfl, rfl, Below.refl _ _⟩
      | 3, _ =>
       obtain rfl : _ = o := Option.some.inj ho
       have h45 : a.tmps.getD 45 undef = .pointer (some ⟨cb, 0, none⟩) := dep_at hdep 2 45 (by kernel_rfl)
       exact wpList_value (v := .pointer (some ⟨cb, 5, none⟩)) (w' := w1) rfl (by go_simp) ⟨rfl, _, rfl, rfl, Below.refl _ _⟩
      | 4, _ =>
       obtain rfl : _ = o := Option.some.inj ho
       have h46 : a.tmps.getD 46 undef = .pointer (some ⟨cb, 5, none⟩) := dep_at hdep 3 46 (by kernel_rfl)
       have hbx := (HX.out.box HC6.out.box hcb)
       have c5 := hbx.cell 5 rfl
       have cl := hbx.lt
       exact wpList_value (v := .slice ob n cb2) (w' := w1) rfl (by go_simp) ⟨rfl, _, rfl, rfl, Below.refl _ _⟩
      | 5, _ =>
       obtain rfl : _ = o := Option.some.inj ho
       have h1 : a.tmps.getD 1 undef = .slice (some ⟨vb, voff, none⟩) lv cv := hrest.at 1 (by kernel_rfl)
       exact wpList_value (v := .slice (some ⟨vb, voff, none⟩) lv cv) (w' := w1) rfl (by go_simp) ⟨rfl, _, rfl, rfl, Below.refl _ _⟩
      | 6, _ =>
       obtain rfl : _ = o := Option.some.inj ho
       have h4 : a.tmps.getD 4 undef = .int .i64 j := hrest.at 4 (by kernel_rfl)
       exact wpList_value (v := .int .i64 j) (w' := w1) rfl (by go_simp) ⟨rfl, _, rfl, rfl, Below.refl _ _⟩
      | 7, _ =>
       obtain rfl : _ = o := Option.some.inj ho
       have h48 : a.tmps.getD 48 undef = .slice (some ⟨vb, voff, none⟩) lv cv := dep_at hdep 5 48 (by kernel_rfl)
       have h49 : a.tmps.getD 49 undef = .int .i64 j := dep_at hdep 6 49 (by kernel_rfl)
       exact wpList_value (v := .pointer (some ⟨vb, voff + j, none⟩)) (w' := w1) rfl (by go_simp) ⟨rfl, _, rfl, rfl, Below.refl _ _⟩
      | 8, _ =>
       obtain rfl : _ = o := Option.some.inj ho
       have h50 : a.tmps.getD 50 undef = .pointer (some ⟨vb, voff + j, none⟩) := dep_at hdep 7 50 (by kernel_rfl)
       have hxc := HXC.out w1 HX.out
       have hxl := cell_lt hxc
       exact wpList_value (v := .int .i64 x) (w' := w1) rfl (by go_simp) ⟨rfl, _, rfl, rfl, Below.refl _ _⟩
      | 9, _ =>
       obtain rfl : _ = o := Option.some.inj ho
       have h51 : a.tmps.getD 51 undef = .int .i64 x := dep_at hdep 8 51 (by kernel_rfl)
       exact wpList_bs1 (v := .slice (some ⟨w1.heap.size, 0, none⟩) 1 1) (w' := w1.alloc (.cells #[.int .i64 x] 3)) rfl rfl h51 (bs_int _ _) ⟨rfl, _, rfl, ⟨_, rfl, BoxL.new rfl _ _⟩, Below.one _ _⟩
      | 10, _ =>
       obtain rfl : _ = o := Option.some.inj ho
       have h47 : a.tmps.getD 47 undef = .slice ob n cb2 := dep_at hdep 4 47 (by kernel_rfl)
       obtain ⟨b9, h52, hb9⟩ : ∃ b, a.tmps.getD 52 undef = .slice (some ⟨b, 0, none⟩) 1 1 ∧ BoxL w1 b 3 [.int .i64 x] := dep_at hdep 9 52 (by kernel_rfl)
       have hrow : w1.ownsRow base 3 1 (.slice ob n cb2) n (lj.map (Value.int .i64)) := ownsRow_keep (by have h := HC6.out.row; rw [HNL.out] at h; exact h) (Below.next HD5.out (hpre rfl))
       obtain ⟨i0, hi0, hz0, hz1, hz2⟩ := info_parts info_int
       refine wpList_append_lies w1 rfl (.tmp 47) (.tmp 52) 32 rfl base 3 i0 (.int .i64 0) 1 8 Tryz.underlying32 hi0 hz0 hz1 hz2 rfl (by decide) (.slice ob n cb2) n (lj.map (Value.int .i64)) h47 hrow ⟨b9, 0, none⟩ 1 1 [.int .i64 x] h52 rfl (box_cells hb9) (by intro u hu; simp only [List.mem_cons, List.not_mem_nil, or_false] at hu; subst hu; rfl) (by decide) (by unfold maxLen; omega) (by omega) (by have := HX.out.size; omega) w1.heap.size rfl ?_
       intro g cap w7 hown7 hgr7 hlie7 hlt7
       exact ⟨rfl, _, rfl, ⟨g, cap, rfl, hown7, hlie7.imp id (fun e => by have := HX.out.size; omega)⟩, Turned.grown hgr7 (fun _ h => h)⟩
     case hend =>
      intro a w1 hdf hsz hex hval hrest
      obtain ⟨g, cap, h53, hown, hlie⟩ : ∃ (g cap : Nat), a.tmps.getD 53 undef = .slice (some ⟨g, 0, none⟩) (n + 1) cap ∧ w1.ownsRow base 3 1 (.slice (some ⟨g, 0, none⟩) (n + 1) cap) (n + 1) (lj.map (Value.int .i64) ++ ([.int .i64 x] : List Value)) ∧ ((Value.slice ob n cb2).ownBlock = some g ∨ W5.heap.size ≤ g) := hval 10 _ 53 (by omega) rfl rfl rfl
      have h43 : a.tmps.getD 43 undef = .pointer (some ⟨cb, 0, none⟩) := hval 0 _ 43 (by omega) rfl rfl rfl
      obtain ⟨f, ha, hf⟩ := act_spell [false, false, false, false, false, false, false, false, false, false, false, false, false, false, false, false, false, false, false, false, false, false, false, false, false, false, false, false, false, false, false, false, false, false, false, false, false, false, false, false, false, false, false, true, true, true, true, true, true, true, true, true, true, true] (by kernel_rfl) hdf hsz hrest
      rw [← hf] at h53 h43
      subst ha
      have HX := Lib.hid (show Turned (fun b => (Value.slice ob n cb2).ownBlock = some b) W5 w1 from (Turned.of_below HD5.out).next hex)
      have hbx := HX.out.box HC6.out.box hcb
      have c5 := hbx.cell 5 rfl
      have cz := hbx.free 5
      have cl := hbx.lt
      have HS5 := Lib.hid (rbind_end HC6.out HX.out hown hlie HXI.out HNL.out.symm)
      clear hval hrest hf hex hbx hown hdf hsz
      simp only [spell, h53, h43, List.drop_succ_cons, List.drop_zero]
      go_wp2_with fail
      go_roundg (lv - (j + 1))
      case measure => omega
      case rel => exact ⟨j + 1, .slice (some ⟨g, 0, none⟩) (n + 1) cap, true, lj ++ [x], rfl, by omega, by go_num, Lib.hid HS5.out.1, Lib.hid (fun _ => HTN.out.symm), HNX, Lib.hid (HT6.out.trans HS5.out.2.1 fun b hb h => HSS.out b hb h), Lib.hid (fun b hb h => HSS.out b hb (HS5.out.2.2 b (Nat.lt_of_lt_of_le hb HT6.out.size) h))⟩
   ·obtain rfl : j = lv := by omega
    have hvt : v.take j = v := List.take_of_length_le (by rw [← HLV.out]; exact Nat.le_refl _)
    obtain rfl : q = true := by rw [← HQ.out, ← HOK.out, hvt]
    have HCE := HCJ.out
    rw [HLJ.out rfl, hvt] at HCE
    have HCF := Lib.hid HCE
    clear HCE hvt
    go_wp2_with fail
    first | go_end0 | skip
    exact ⟨rfl, bs, HT.out, HSS.out, fun _ => HCF.out, fun h => (by cases h)⟩
end
end Go.Proofs.YtigkhmppnnljiaaGreatDoor

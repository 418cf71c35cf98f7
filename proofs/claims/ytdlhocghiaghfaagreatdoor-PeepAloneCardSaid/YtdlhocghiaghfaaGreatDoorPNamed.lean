/-
  peep.named.
-/
import Derived.Test.YtdlhocghiaghfaaGreatDoorLeads
import Derived.Test.YtdlhocghiaghfaaGreatDoorListUp
import Derived.Laws.EntriesVeiled
import Derived.Deep.Cut
import Derived.Deep.CutRange
namespace Go.Proofs.YtdlhocghiaghfaaGreatDoor
open Go.RowKit

/-- Two blocks, then a call. -/
theorem two_boxes {w w1 : World} {A B : List Value} {t u : TypeId} (hb : Below ((w.alloc (.cells A.toArray t)).alloc (.cells B.toArray u)).heap.size ((w.alloc (.cells A.toArray t)).alloc (.cells B.toArray u)) w1) :
    BoxL w1 w.heap.size t A ∧ BoxL w1 (w.heap.size + 1) u B ∧ Below w.heap.size w w1 :=
  ⟨((BoxL.new rfl t A).alloc _).keep hb, (BoxL.new (by simp) u B).keep hb, (((Below.refl _ _).alloc (Nat.le_refl _) _).alloc (by simp) _).trans (hb.mono (by simp; omega))⟩
theorem box5_of {W : World} {b : Nat} {t : TypeId} {c0 c1 c2 c3 c4 : Value} (h : BoxL W b t [c0, c1, c2, c3, c4]) : Box5 W b t c0 c1 c2 c3 c4 := h

def InsV (x : Ins) (sl : Value) : Value := .agg #[.int .i64 x.op, .int .i64 x.d, .int .i64 x.a, .int .i64 x.b, sl]

set_option maxHeartbeats 1000000 in
set_option maxRecDepth 100000 in
theorem pnamed_15 (F : FuncId) (caps : Array Value) (g : Int → Int) (d a b : Int) (sl : Value) (w : World) (hsl : ∃ o len cap, sl = .slice o len cap) (hF : ∀ (args : Array Value) (w : World), (callFunc F args).run Tryz.prog w = .ok (.enter F args) w) (H : ∀ W, Below w.heap.size w W → Calls Tryz.prog F (#[.int .i64 a] ++ caps) W fun e w' => e = .returned (.int .i64 (g a)) ∧ Below W.heap.size W w') :
    Calls Tryz.prog 76 #[.agg #[.int .i64 15, .int .i64 d, .int .i64 a, .int .i64 b, sl], .func (.func F) #[] caps] w fun e w' => e = .returned (.agg #[.int .i64 15, .int .i64 d, .int .i64 (g a), .int .i64 b, sl]) ∧ Below w.heap.size w w' := by
  obtain ⟨o, len, cap, rfl⟩ := hsl
  have HC := Lib.hid (fun X Y => H ((w.alloc X).alloc Y) ((Below.one w X).trans ((Below.one _ Y).mono (by simp))))
  clear H
  go_enter Tryz.func76, Tryz.ntmps76
  go_wp2_with fail
  with_reducible refine (HC.out _ _).mono ?_
  rintro e w1 ⟨rfl, hb1⟩
  obtain ⟨bx, br, hb⟩ := two_boxes hb1
  have HB := Lib.hid hb
  have x0 := bx.cell 0 rfl
  have xf := bx.cell 2 rfl
  have y0 := bx.free 2
  have hlx := bx.lt
  have HX := Lib.hid (show BoxL (w1.setCell ⟨w.heap.size, 2, none⟩ (.int .i64 (g a))) w.heap.size 34 [.int .i64 15, .int .i64 d, .int .i64 (g a), .int .i64 b, .slice o len cap] from bx.set 2 _)
  have HR := Lib.hid (show BoxL (w1.setCell ⟨w.heap.size, 2, none⟩ (.int .i64 (g a))) (w.heap.size + 1) 34 [.int .i64 0, .int .i64 0, .int .i64 0, .int .i64 0, .slice none 0 0] from br.other _ _ (by simp))
  have HBS := Lib.hid (hb.setCell (p := ⟨w.heap.size, 2, none⟩) (Nat.le_refl _) (.int .i64 (g a)))
  clear hb1 bx br hb HC
  go_upto_region 6 with fail
  generalize w1.setCell ⟨w.heap.size, 2, none⟩ (.int .i64 (g a)) = W at HX HR HBS ⊢
  have x0 := HX.out.cell 0 rfl
  have x1 := HX.out.cell 1 rfl
  have x2 := HX.out.cell 2 rfl
  have x3 := HX.out.cell 3 rfl
  have x4 := HX.out.cell 4 rfl
  have b5 := box5_of HR.out
  have hlr := HR.out.lt
  obtain ⟨q0, q1, q2, q3, q4⟩ := b5.cells
  obtain ⟨z0, z1, z2, z3, z4⟩ := b5.free
  have bN := b5.set (.int .i64 15) (.int .i64 d) (.int .i64 (g a)) (.int .i64 b) (.slice o len cap)
  obtain ⟨r0, r1, r2, r3, r4⟩ := bN.cells
  have HBE := Lib.hid (HBS.out.trans (set5_below W (w.heap.size + 1) w.heap.size (.int .i64 15) (.int .i64 d) (.int .i64 (g a)) (.int .i64 b) (.slice o len cap) (by omega)))
  clear b5 bN
  go_wp2_with fail
  exact bodyPost_ret (v := .agg #[.int .i64 15, .int .i64 d, .int .i64 (g a), .int .i64 b, .slice o len cap]) (by simp [results, Tryz.results76, go_sem, r0, r1, r2, r3, r4]) rfl ⟨rfl, HBE.out⟩

set_option maxHeartbeats 1000000 in
set_option maxRecDepth 100000 in
theorem pnamed_16 (F : FuncId) (caps : Array Value) (g : Int → Int) (d a b : Int) (sl : Value) (w : World) (hsl : ∃ o len cap, sl = .slice o len cap) (hF : ∀ (args : Array Value) (w : World), (callFunc F args).run Tryz.prog w = .ok (.enter F args) w) (H : ∀ W, Below w.heap.size w W → Calls Tryz.prog F (#[.int .i64 b] ++ caps) W fun e w' => e = .returned (.int .i64 (g b)) ∧ Below W.heap.size W w') :
    Calls Tryz.prog 76 #[.agg #[.int .i64 16, .int .i64 d, .int .i64 a, .int .i64 b, sl], .func (.func F) #[] caps] w fun e w' => e = .returned (.agg #[.int .i64 16, .int .i64 d, .int .i64 a, .int .i64 (g b), sl]) ∧ Below w.heap.size w w' := by
  obtain ⟨o, len, cap, rfl⟩ := hsl
  have HC := Lib.hid (fun X Y => H ((w.alloc X).alloc Y) ((Below.one w X).trans ((Below.one _ Y).mono (by simp))))
  clear H
  go_enter Tryz.func76, Tryz.ntmps76
  go_wp2_with fail
  with_reducible refine (HC.out _ _).mono ?_
  rintro e w1 ⟨rfl, hb1⟩
  obtain ⟨bx, br, hb⟩ := two_boxes hb1
  have HB := Lib.hid hb
  have x0 := bx.cell 0 rfl
  have xf := bx.cell 3 rfl
  have y0 := bx.free 3
  have hlx := bx.lt
  have HX := Lib.hid (show BoxL (w1.setCell ⟨w.heap.size, 3, none⟩ (.int .i64 (g b))) w.heap.size 34 [.int .i64 16, .int .i64 d, .int .i64 a, .int .i64 (g b), .slice o len cap] from bx.set 3 _)
  have HR := Lib.hid (show BoxL (w1.setCell ⟨w.heap.size, 3, none⟩ (.int .i64 (g b))) (w.heap.size + 1) 34 [.int .i64 0, .int .i64 0, .int .i64 0, .int .i64 0, .slice none 0 0] from br.other _ _ (by simp))
  have HBS := Lib.hid (hb.setCell (p := ⟨w.heap.size, 3, none⟩) (Nat.le_refl _) (.int .i64 (g b)))
  clear hb1 bx br hb HC
  go_upto_region 6 with fail
  generalize w1.setCell ⟨w.heap.size, 3, none⟩ (.int .i64 (g b)) = W at HX HR HBS ⊢
  have x0 := HX.out.cell 0 rfl
  have x1 := HX.out.cell 1 rfl
  have x2 := HX.out.cell 2 rfl
  have x3 := HX.out.cell 3 rfl
  have x4 := HX.out.cell 4 rfl
  have b5 := box5_of HR.out
  have hlr := HR.out.lt
  obtain ⟨q0, q1, q2, q3, q4⟩ := b5.cells
  obtain ⟨z0, z1, z2, z3, z4⟩ := b5.free
  have bN := b5.set (.int .i64 16) (.int .i64 d) (.int .i64 a) (.int .i64 (g b)) (.slice o len cap)
  obtain ⟨r0, r1, r2, r3, r4⟩ := bN.cells
  have HBE := Lib.hid (HBS.out.trans (set5_below W (w.heap.size + 1) w.heap.size (.int .i64 16) (.int .i64 d) (.int .i64 a) (.int .i64 (g b)) (.slice o len cap) (by omega)))
  clear b5 bN
  go_wp2_with fail
  exact bodyPost_ret (v := .agg #[.int .i64 16, .int .i64 d, .int .i64 a, .int .i64 (g b), .slice o len cap]) (by simp [results, Tryz.results76, go_sem, r0, r1, r2, r3, r4]) rfl ⟨rfl, HBE.out⟩

set_option maxHeartbeats 1000000 in
set_option maxRecDepth 100000 in
theorem pnamed_other (k : Int) (h15 : k ≠ 15) (h16 : k ≠ 16) (F : FuncId) (caps : Array Value) (d a b : Int) (sl : Value) (w : World) (hsl : ∃ o len cap, sl = .slice o len cap) :
    Calls Tryz.prog 76 #[.agg #[.int .i64 k, .int .i64 d, .int .i64 a, .int .i64 b, sl], .func (.func F) #[] caps] w fun e w' => e = .returned (.agg #[.int .i64 k, .int .i64 d, .int .i64 a, .int .i64 b, sl]) ∧ Below w.heap.size w w' := by
  obtain ⟨o, len, cap, rfl⟩ := hsl
  have f15 : (k == 15) = false := by simpa using h15
  have f16 : (k == 16) = false := by simpa using h16
  go_enter Tryz.func76, Tryz.ntmps76
  go_wp2_with fail
  exact bodyPost_ret (v := .agg #[.int .i64 k, .int .i64 d, .int .i64 a, .int .i64 b, .slice o len cap]) (by simp [results, Tryz.results76, go_sem]) rfl ⟨rfl, (Below.one w _).trans ((Below.one _ _).mono (by simp))⟩

theorem pnamed_any (F : FuncId) (caps : Array Value) (g : Int → Int) (x : Ins) (c0 c1 c2 c3 c4 : Value) (B : Nat) (w : World) (hx : InsR w B x [c0, c1, c2, c3, c4]) (hF : ∀ (args : Array Value) (w : World), (callFunc F args).run Tryz.prog w = .ok (.enter F args) w)
    (H : ∀ t W, (x.op = 15 ∧ t = x.a ∨ x.op = 16 ∧ t = x.b) → Below w.heap.size w W → Calls Tryz.prog F (#[.int .i64 t] ++ caps) W fun e w' => e = .returned (.int .i64 (g t)) ∧ Below W.heap.size W w') :
    Calls Tryz.prog 76 #[.agg #[c0, c1, c2, c3, c4], .func (.func F) #[] caps] w fun e w' => e = .returned (InsV (Peep.mapT g x) c4) ∧ Below w.heap.size w w' := by
  obtain ⟨k, d, a, b, l⟩ := x
  obtain ⟨sl, he, _, _, _, _, hl⟩ := hx
  simp only [List.cons.injEq, and_true] at he
  obtain ⟨rfl, rfl, rfl, rfl, rfl⟩ := he
  by_cases h15 : k = 15
  · subst h15
    have := pnamed_15 F caps g d a b c4 w hl.form hF (fun W hW => H a W (.inl ⟨rfl, rfl⟩) hW)
    simpa [InsV, Peep.mapT] using this
  by_cases h16 : k = 16
  · subst h16
    have := pnamed_16 F caps g d a b c4 w hl.form hF (fun W hW => H b W (.inr ⟨rfl, rfl⟩) hW)
    simpa [InsV, Peep.mapT] using this
  · have := pnamed_other k h15 h16 F caps d a b c4 w hl.form
    simpa [InsV, Peep.mapT, h15, h16] using this
end Go.Proofs.YtdlhocghiaghfaaGreatDoor

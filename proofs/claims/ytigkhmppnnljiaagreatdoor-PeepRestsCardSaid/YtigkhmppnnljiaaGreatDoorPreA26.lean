/-
  What the proofs lean on: Peeps.
-/
import Derived.RangeFuncNested
import Derived.RangeFuncLeaves
import Derived.RangeFuncCalls
import Derived.Shelf.Abstract
import Derived.Shelf.RegionOpen
import Derived.OwnWalkIn
import Derived.TacticsInMore
import Derived.LoopNIn
import Derived.LoopIn
import Derived.Sort.LoopGhostIn
import Derived.Deep.AppendLies
import Derived.Test.YtigkhmppnnljiaaGreatDoorPreA09
import Derived.Test.YtigkhmppnnljiaaGreatDoorPreA14
import Derived.Test.YtigkhmppnnljiaaGreatDoorPreA19
import Derived.Test.YtigkhmppnnljiaaGreatDoorPreA21
import Derived.Test.YtigkhmppnnljiaaGreatDoorPreA23
import Derived.Test.YtigkhmppnnljiaaGreatDoorPreA24
set_option maxRecDepth 100000
set_option maxHeartbeats 16000000
namespace Go.Proofs.YtigkhmppnnljiaaGreatDoor
section
open Go Go.RowKit
def TurnI (B : Nat) (W : World) (row : Option Nat) : Prop := ∀ r, row = some r → B ≤ r ∧ ∃ cs f, W.heap[r]? = some (.cells cs 34 f)
def TurnO (B : Nat) (W : World) (row : Option Nat) : Prop := ∀ r, row = some r → B ≤ r ∧ ∃ o : Obj, W.heap[r]? = some o ∧ (o.isCells = false ∨ ∃ cs f, o = .cells cs 34 f)
def AbI (B : Nat) (J : World → Prop) : Prop := ∀ W W' row, J W → W.grownBy W' row → TurnI B W row → J W'
def AbO (B : Nat) (J : World → Prop) : Prop := ∀ W W' row, J W → W.grownBy W' row → TurnO B W row → J W'
theorem TurnI.o {B : Nat} {W : World} {row : Option Nat} (h : TurnI B W row) : TurnO B W row := fun r e => by
 obtain ⟨h1, cs, f, h2⟩ := h r e
 exact ⟨h1, _, h2, .inr ⟨cs, f, rfl⟩⟩
theorem AbO.i {B : Nat} {J : World → Prop} (h : AbO B J) : AbI B J := fun W W' row hs hg hr => h W W' row hs hg hr.o
theorem AbI.alloc {B : Nat} {J : World → Prop} {W : World} (h : AbI B J) (hs : J W) (o : Obj) : J (W.alloc o) := h W _ none hs (World.grownBy_alloc W o none) (fun r e => by cases e)
theorem AbI.set {B : Nat} {J : World → Prop} {W : World} {b : Nat} {cs : List Value} (h : AbI B J) (hs : J W) (hB : B ≤ b) (hb : BoxL W b 34 cs) (i : Nat) (v : Value) : J (W.setCell ⟨b, i, none⟩ v) :=
 h W _ (some b) hs ⟨rfl, rfl, rfl, by simp [World.setCell], fun k _ hk => setCell_heap_other W _ v (fun e => hk (by rw [e]))⟩ (fun r e => by cases e; exact ⟨hB, _, _, hb⟩)
theorem AbO.put {B : Nat} {J : World → Prop} {W : World} (h : AbO B J) (hs : J W) {l : Nat} {o : Obj} (o' : Obj) (hB : B ≤ l) (hl : W.heap[l]? = some o) (ho : o.isCells = false) : J (W.putObj l o') :=
 h W _ (some l) hs (grownBy_putObj' W l o') (fun r e => by cases e; exact ⟨hB, o, hl, .inl ho⟩)
def KpI (W W' : World) : Prop := ∀ b t cs, (t = 34 ∨ t = 95) → BoxL W b t cs → BoxL W' b t cs
theorem KpI.trans {A B C : World} (h : KpI A B) (k : KpI B C) : KpI A C := fun b t cs ht hb => k b t cs ht (h b t cs ht hb)
theorem KpI.put {W : World} {l : Nat} {o : Obj} (o' : Obj) (hl : W.heap[l]? = some o) (ho : o.isCells = false) : KpI W (W.putObj l o') := fun b t cs _ hb => by
 refine (World.putObj_heap_other ?_).trans hb
 rintro rfl
 rw [show W.heap[b]? = _ from hb] at hl
 cases hl
 cases ho
def RoundEnd (B : Nat) (I : List Int → World → Prop) (s : List Int) (W : World) (e : Exit) (_ : Act) (W' : World) : Prop := e = .normal ∧ KeepsFrom B W W' ∧ KpI W W' ∧ I s W'
theorem wpIn_range_all {n : Nat} {g : Operand} {ps : Array Tmp} {assign body : Code} {Q : Exit → Act → World → Prop} {a : Act} {w : World} {P : Program} {gf : Nat} {lb : Array Value}
  (hg : a.eval g = .func (.func gf) #[] lb) (eg : ∀ args w, (callFunc gf args).run P w = .ok (.enter gf args) w) (xs : List Int) (N : Nat)
  (hseq : ∀ (l : Nat) (J : List Int → World → Prop) (W : World), (∀ s, AbI w.heap.size (J s)) → Below w.heap.size w W →
   (∀ m pre y W1, J pre W1 → pre.length < N → YieldAt Fence.wide m P l #[.int .i64 y] W1 fun e W' => e = .returned (.bool true) ∧ J (pre ++ [y]) W' ∧ KpI W1 W') → J [] W →
   CallsIn Fence.wide (n - 1) P gf (#[.func (.yield l) #[] #[]] ++ lb) W fun e W' => (∃ v, e = .returned v) ∧ J xs W')
  (hps : ps.size = 1) (I : List Int → World → Prop) (hI : ∀ s, AbO w.heap.size (I s)) (h0 : I [] w) (a₁ : Act → Int → Act)
  (hassign : ∀ (l m : Nat) (y : Int) (W : World) (K : Act → World → Prop), K (a₁ a y) W → assign.wpIn (Fence.wide.inRound l) m P (Exit.then K (fun _ _ _ => False)) { tmps := (ps.zip #[.int .i64 y]).foldl (fun t (p, v) => t.setIfInBounds p v) a.tmps, defers := [] } W)
  (hbody : ∀ (l m : Nat) (pre : List Int) (y : Int) (W : World), I pre W → pre.length < N → body.wpIn (Fence.wide.inRound l) m P (RoundEnd w.heap.size I (pre ++ [y]) W) (a₁ a y) W)
  (hdone : ∀ (D : Nat) (W : World), w.heap.size ≤ D → I xs W → W.heap[D]? = some (.deferred (some [])) → Q .normal { a with defers := { target := .collected D, args := #[] } :: a.defers } W) :
  (Code.rangeFunc g ps assign body).wpIn Fence.wide n P Q a w := by
 refine wpIn_rangeFunc ?_
 intro fn hfn
 obtain ⟨rec, hrec⟩ : ∃ rec : LoopState → Loop, rec = fun st => { state := st, pending := none, fn, tmps := a.tmps, params := ps, assign, body, defers := w.heap.size } := ⟨_, rfl⟩
 obtain ⟨W1, hW1⟩ : ∃ W1, (w.alloc (.deferred (some []))).alloc (.loop (rec .ready)) = W1 := ⟨_, rfl⟩
 have hL1 : W1.heap[w.heap.size + 1]? = some (.loop (rec .ready)) := by
  rw [← hW1]
  have := World.alloc_heap_new (w.alloc (.deferred (some []))) (.loop (rec .ready))
  rwa [World.size_alloc] at this
 have hK1 : W1.heap[w.heap.size]? = some (.deferred (some [])) := by
  rw [← hW1]; exact (Below.heap_alloc _ _ _ (by simp)).trans (World.alloc_heap_new w _)
 have hI1 : I [] W1 := by rw [← hW1]; exact (hI []).i.alloc ((hI []).i.alloc h0 _) _
 have hb1 : Below w.heap.size w W1 := by
  rw [← hW1]; exact ((Below.refl _ w).alloc (Nat.le_refl _) _).alloc (by simp) _
 refine ⟨w.heap.size + 1, [{ target := .collected w.heap.size, args := #[] }], W1, { target := .fn (.func gf) lb, args := #[.func (.yield (w.heap.size + 1)) #[] #[]] }, W1, gf,
  #[.func (.yield (w.heap.size + 1)) #[] #[]] ++ lb, W1, ?_, ?_, fun _ _ => trivial, ?_, fun h => (by cases h), ?_⟩
 ·rw [← hW1, hrec]; exact run_enterLoop_outer _ _ _ _ _
 ·simp only [resolve, hg]
  simp [go_sem]
 ·simp [invoke, go_sem, eg]
 ·refine (hseq (w.heap.size + 1) (fun pre W => I pre W ∧ W.heap[w.heap.size + 1]? = some (.loop (rec .ready)) ∧ W.heap[w.heap.size]? = some (.deferred (some []))) W1 ?_ hb1 ?_ ⟨hI1, hL1, hK1⟩).mono ?_
  ·rintro s A C row ⟨h1, h2, h3⟩ hgr hrow
   have keep : ∀ (k : Nat) (o : Obj), A.heap[k]? = some o → o.isCells = false → C.heap[k]? = some o := fun k o hk ho => (hgr.block k (Array.getElem?_eq_some_iff.1 hk).1 (fun e => by
    obtain ⟨_, cs, f, hc⟩ := hrow k e.symm
    rw [hk] at hc; cases hc; cases ho)).trans hk
   exact ⟨(hI s).i A C row h1 hgr hrow, keep _ _ h2 rfl, keep _ _ h3 rfl⟩
  ·rintro m pre y W ⟨hi, hl, hk⟩ hlen
   have hlt := (Array.getElem?_eq_some_iff.1 hl).1
   have hy := run_yield (P := P) (args := #[.int .i64 y]) hl (by rw [hrec]; simp [hps])
   rw [hrec] at hy
   refine ⟨fn, _, assign, body, hy, roundIn_of_wpIn trivial (hassign _ _ y W _ ⟨_, run_beginRound hl (by rw [hrec]), ?_⟩)⟩
   have hl2 : (W.putObj (w.heap.size + 1) (.loop { rec .ready with state := .busy })).heap[w.heap.size + 1]? = some (.loop { rec .ready with state := .busy }) := World.putObj_heap_same hlt
   have hk2 : (W.putObj (w.heap.size + 1) (.loop { rec .ready with state := .busy })).heap[w.heap.size]? = some (.deferred (some [])) := (World.putObj_heap_other (by omega)).trans hk
   refine wpIn_mono (hbody _ _ pre y _ ((hI pre).put hi _ (by omega) hl rfl) hlen) ?_
   rintro e a3 W3 ⟨rfl, hk3, hkp3, hi3⟩
   have hl3 := hk3.same _ _ (by omega) hl2 rfl
   have hr := run_endRound (P := P) none hl3
   rw [hrec] at hr hl3
   refine ⟨_, _, hr, rfl, ⟨(hI _).put hi3 _ (by omega) hl3 rfl, ?_, (World.putObj_heap_other (by omega)).trans (hk3.same _ _ (Nat.le_refl _) hk2 rfl)⟩, ((KpI.put _ hl rfl).trans hkp3).trans (KpI.put _ hl3 rfl)⟩
   rw [hrec]
   exact World.putObj_heap_same (Array.getElem?_eq_some_iff.1 hl3).1
  ·rintro e W2 ⟨⟨v, rfl⟩, hi, hl, hk⟩
   refine ⟨none, _, by have := run_endLoop (P := P) hl (by rw [hrec]; simp); rw [hrec] at this; exact this, hdone _ _ (Nat.le_refl _) ((hI xs).put hi _ (by omega) hl rfl) ((World.putObj_heap_other (by omega)).trans hk)⟩
theorem leaves_marks {F : Fence} {n H : Nat} {P : Program} {fn : Func} {tmps : Array Value} {R : Ending → World → Prop} (G : World → Prop) (hG : ∀ (W : World) (D : Nat), G W → H ≤ D → W.heap[D]? = some (.deferred (some [])) → G (W.putObj D (.deferred none)))
  (hend : ∀ W, G W → LeavesIn F n P fn tmps R [] .returning W) : ∀ (ds : List Nat) (W : World), ds.Nodup → (∀ D ∈ ds, H ≤ D ∧ W.heap[D]? = some (.deferred (some []))) → G W → LeavesInM F n P fn tmps R (ds.map fun D => { target := .collected D, args := #[] }) .returning W
 | [], W, _, _, h => hend W h
 | D :: ds, W, hn, hd, h => by
  have hn' := List.nodup_cons.1 hn
  obtain ⟨h1, h2⟩ := hd D (by simp)
  refine ⟨by simp, .inl ⟨D, _, rfl, run_takeDeferred h2, ?_⟩⟩
  refine leaves_marks G hG hend ds _ hn'.2 (fun D' h' => ?_) (hG W D h h1 h2)
  have hne : D' ≠ D := by rintro rfl; exact hn'.1 h'
  obtain ⟨h3, h4⟩ := hd D' (by simp [h'])
  exact ⟨h3, (World.putObj_heap_other hne).trans h4⟩
end
section
open Go Go.RowKit Go.Shelf
def succsI (op a b : Int) (k : Nat) : List Int := (if op ≠ 15 ∧ op < 19 then [(k : Int) + 1] else []) ++ (if op = 15 then [a] else if op = 16 then [b] else [])
theorem pnamedJ_15 (F : FuncId) (caps : Array Value) (d a b : Int) (sl : Value) (w : World) (hsl : ∃ o len cap, sl = .slice o len cap) (hF : ∀ (args : Array Value) (w : World), (callFunc F args).run Tryz.prog w = .ok (.enter F args) w) (B : Nat) (J0 J1 : World → Prop) (hJ0 : AbI B J0) (hJ1 : AbI B J1) (h0 : J0 w) (hB : B ≤ w.heap.size)
  (H : ∀ X Y : Obj, J0 ((w.alloc X).alloc Y) → Calls Tryz.prog F (#[.int .i64 a] ++ caps) ((w.alloc X).alloc Y) fun e w' => e = .returned (.int .i64 a) ∧ J1 w' ∧ KpI ((w.alloc X).alloc Y) w') :
  Calls Tryz.prog 85 #[.agg #[.int .i64 15, .int .i64 d, .int .i64 a, .int .i64 b, sl], .func (.func F) #[] caps] w fun e w' => (∃ v, e = .returned v) ∧ J1 w' := by
 obtain ⟨o, len, cap, rfl⟩ := hsl
 have HC := Lib.hid (fun X Y => H X Y (hJ0.alloc (hJ0.alloc h0 X) Y))
 have HJ1 := Lib.hid hJ1
 clear H hJ0 h0 hJ1
 go_enter Tryz.func85, Tryz.ntmps85
 go_wp2_with fail
 with_reducible refine (HC.out _ _).mono ?_
 rintro e w1 ⟨rfl, hj1, hk1⟩
 have bx : BoxL w1 w.heap.size 34 [.int .i64 15, .int .i64 d, .int .i64 a, .int .i64 b, .slice o len cap] := hk1 _ _ _ (.inl rfl) ((BoxL.new rfl _ _).alloc _)
 have br : BoxL w1 (w.heap.size + 1) 34 [.int .i64 0, .int .i64 0, .int .i64 0, .int .i64 0, .slice none 0 0] := hk1 _ _ _ (.inl rfl) (BoxL.new (by simp) _ _)
 have x0 := bx.cell 0 rfl
 have xf := bx.cell 2 rfl
 have y0 := bx.free 2
 have hlx := bx.lt
 have HX := Lib.hid (show BoxL (w1.setCell ⟨w.heap.size, 2, none⟩ (.int .i64 a)) w.heap.size 34 [.int .i64 15, .int .i64 d, .int .i64 a, .int .i64 b, .slice o len cap] from bx.set 2 _)
 have HR := Lib.hid (show BoxL (w1.setCell ⟨w.heap.size, 2, none⟩ (.int .i64 a)) (w.heap.size + 1) 34 [.int .i64 0, .int .i64 0, .int .i64 0, .int .i64 0, .slice none 0 0] from br.other _ _ (by simp))
 have HJ := Lib.hid (HJ1.out.set hj1 hB bx 2 (.int .i64 a))
 clear hj1 hk1 bx br HC
 go_upto_region 6 with fail
 generalize w1.setCell ⟨w.heap.size, 2, none⟩ (.int .i64 a) = W at HX HR HJ ⊢
 have x0 := HX.out.cell 0 rfl
 have x1 := HX.out.cell 1 rfl
 have x2 := HX.out.cell 2 rfl
 have x3 := HX.out.cell 3 rfl
 have x4 := HX.out.cell 4 rfl
 have b5 := box5_of HR.out
 have hlr := HR.out.lt
 obtain ⟨q0, q1, q2, q3, q4⟩ := b5.cells
 obtain ⟨z0, z1, z2, z3, z4⟩ := b5.free
 have bN := b5.set (.int .i64 15) (.int .i64 d) (.int .i64 a) (.int .i64 b) (.slice o len cap)
 obtain ⟨r0, r1, r2, r3, r4⟩ := bN.cells
 have g0 := HJ1.out.set HJ.out (b := w.heap.size + 1) (by omega) HR.out 0 (.int .i64 15)
 have g1 := HJ1.out.set g0 (b := w.heap.size + 1) (by omega) (HR.out.set 0 (.int .i64 15)) 1 (.int .i64 d)
 have g2 := HJ1.out.set g1 (b := w.heap.size + 1) (by omega) ((HR.out.set 0 (.int .i64 15)).set 1 (.int .i64 d)) 2 (.int .i64 a)
 have g3 := HJ1.out.set g2 (b := w.heap.size + 1) (by omega) (((HR.out.set 0 (.int .i64 15)).set 1 (.int .i64 d)).set 2 (.int .i64 a)) 3 (.int .i64 b)
 have HG := Lib.hid (HJ1.out.set g3 (b := w.heap.size + 1) (by omega) ((((HR.out.set 0 (.int .i64 15)).set 1 (.int .i64 d)).set 2 (.int .i64 a)).set 3 (.int .i64 b)) 4 (.slice o len cap))
 clear b5 bN g0 g1 g2 g3
 go_wp2_with fail
 exact bodyPost_ret (v := .agg #[.int .i64 15, .int .i64 d, .int .i64 a, .int .i64 b, .slice o len cap]) (by simp [results, Tryz.results85, go_sem, r0, r1, r2, r3, r4]) rfl ⟨⟨_, rfl⟩, HG.out⟩
theorem pnamedJ_16 (F : FuncId) (caps : Array Value) (d a b : Int) (sl : Value) (w : World) (hsl : ∃ o len cap, sl = .slice o len cap) (hF : ∀ (args : Array Value) (w : World), (callFunc F args).run Tryz.prog w = .ok (.enter F args) w) (B : Nat) (J0 J1 : World → Prop) (hJ0 : AbI B J0) (hJ1 : AbI B J1) (h0 : J0 w) (hB : B ≤ w.heap.size)
  (H : ∀ X Y : Obj, J0 ((w.alloc X).alloc Y) → Calls Tryz.prog F (#[.int .i64 b] ++ caps) ((w.alloc X).alloc Y) fun e w' => e = .returned (.int .i64 b) ∧ J1 w' ∧ KpI ((w.alloc X).alloc Y) w') :
  Calls Tryz.prog 85 #[.agg #[.int .i64 16, .int .i64 d, .int .i64 a, .int .i64 b, sl], .func (.func F) #[] caps] w fun e w' => (∃ v, e = .returned v) ∧ J1 w' := by
 obtain ⟨o, len, cap, rfl⟩ := hsl
 have HC := Lib.hid (fun X Y => H X Y (hJ0.alloc (hJ0.alloc h0 X) Y))
 have HJ1 := Lib.hid hJ1
 clear H hJ0 h0 hJ1
 go_enter Tryz.func85, Tryz.ntmps85
 go_wp2_with fail
 with_reducible refine (HC.out _ _).mono ?_
 rintro e w1 ⟨rfl, hj1, hk1⟩
 have bx : BoxL w1 w.heap.size 34 [.int .i64 16, .int .i64 d, .int .i64 a, .int .i64 b, .slice o len cap] := hk1 _ _ _ (.inl rfl) ((BoxL.new rfl _ _).alloc _)
 have br : BoxL w1 (w.heap.size + 1) 34 [.int .i64 0, .int .i64 0, .int .i64 0, .int .i64 0, .slice none 0 0] := hk1 _ _ _ (.inl rfl) (BoxL.new (by simp) _ _)
 have x0 := bx.cell 0 rfl
 have xf := bx.cell 3 rfl
 have y0 := bx.free 3
 have hlx := bx.lt
 have HX := Lib.hid (show BoxL (w1.setCell ⟨w.heap.size, 3, none⟩ (.int .i64 b)) w.heap.size 34 [.int .i64 16, .int .i64 d, .int .i64 a, .int .i64 b, .slice o len cap] from bx.set 3 _)
 have HR := Lib.hid (show BoxL (w1.setCell ⟨w.heap.size, 3, none⟩ (.int .i64 b)) (w.heap.size + 1) 34 [.int .i64 0, .int .i64 0, .int .i64 0, .int .i64 0, .slice none 0 0] from br.other _ _ (by simp))
 have HJ := Lib.hid (HJ1.out.set hj1 hB bx 3 (.int .i64 b))
 clear hj1 hk1 bx br HC
 go_upto_region 6 with fail
 generalize w1.setCell ⟨w.heap.size, 3, none⟩ (.int .i64 b) = W at HX HR HJ ⊢
 have x0 := HX.out.cell 0 rfl
 have x1 := HX.out.cell 1 rfl
 have x2 := HX.out.cell 2 rfl
 have x3 := HX.out.cell 3 rfl
 have x4 := HX.out.cell 4 rfl
 have b5 := box5_of HR.out
 have hlr := HR.out.lt
 obtain ⟨q0, q1, q2, q3, q4⟩ := b5.cells
 obtain ⟨z0, z1, z2, z3, z4⟩ := b5.free
 have bN := b5.set (.int .i64 16) (.int .i64 d) (.int .i64 a) (.int .i64 b) (.slice o len cap)
 obtain ⟨r0, r1, r2, r3, r4⟩ := bN.cells
 have g0 := HJ1.out.set HJ.out (b := w.heap.size + 1) (by omega) HR.out 0 (.int .i64 16)
 have g1 := HJ1.out.set g0 (b := w.heap.size + 1) (by omega) (HR.out.set 0 (.int .i64 16)) 1 (.int .i64 d)
 have g2 := HJ1.out.set g1 (b := w.heap.size + 1) (by omega) ((HR.out.set 0 (.int .i64 16)).set 1 (.int .i64 d)) 2 (.int .i64 a)
 have g3 := HJ1.out.set g2 (b := w.heap.size + 1) (by omega) (((HR.out.set 0 (.int .i64 16)).set 1 (.int .i64 d)).set 2 (.int .i64 a)) 3 (.int .i64 b)
 have HG := Lib.hid (HJ1.out.set g3 (b := w.heap.size + 1) (by omega) ((((HR.out.set 0 (.int .i64 16)).set 1 (.int .i64 d)).set 2 (.int .i64 a)).set 3 (.int .i64 b)) 4 (.slice o len cap))
 clear b5 bN g0 g1 g2 g3
 go_wp2_with fail
 exact bodyPost_ret (v := .agg #[.int .i64 16, .int .i64 d, .int .i64 a, .int .i64 b, .slice o len cap]) (by simp [results, Tryz.results85, go_sem, r0, r1, r2, r3, r4]) rfl ⟨⟨_, rfl⟩, HG.out⟩
theorem pnamedJ_other (k : Int) (h15 : k ≠ 15) (h16 : k ≠ 16) (F : FuncId) (caps : Array Value) (d a b : Int) (sl : Value) (w : World) (hsl : ∃ o len cap, sl = .slice o len cap) (B : Nat) (J0 : World → Prop) (hJ0 : AbI B J0) (h0 : J0 w) :
  Calls Tryz.prog 85 #[.agg #[.int .i64 k, .int .i64 d, .int .i64 a, .int .i64 b, sl], .func (.func F) #[] caps] w fun e w' => (∃ v, e = .returned v) ∧ J0 w' := by
 obtain ⟨o, len, cap, rfl⟩ := hsl
 have f15 : (k == 15) = false := by simpa using h15
 have f16 : (k == 16) = false := by simpa using h16
 have HJ := Lib.hid (fun X Y => hJ0.alloc (hJ0.alloc h0 X) Y)
 clear hJ0 h0
 go_enter Tryz.func85, Tryz.ntmps85
 go_wp2_with fail
 exact bodyPost_ret (v := .agg #[.int .i64 k, .int .i64 d, .int .i64 a, .int .i64 b, .slice o len cap]) (by simp [results, Tryz.results85, go_sem]) rfl ⟨⟨_, rfl⟩, HJ.out _ _⟩
theorem goes11_in (m l : Nat) (t : Int) (yb : Nat) (W : World) (X : World → Prop) (hyb : BoxL W yb 95 [.func (.yield l) #[] #[]])
  (hY : YieldAt Fence.wide m Tryz.prog l #[.int .i64 t] W fun e W' => e = .returned (.bool true) ∧ X W') :
  CallsIn Fence.wide (m + 1) Tryz.prog 150 #[.int .i64 t, .pointer (some ⟨yb, 0, none⟩)] W fun e W' => e = .returned (.int .i64 t) ∧ X W' := by
 have y0 := hyb.cell 0 rfl
 obtain ⟨fn, tmps, assign, body, hy, hR⟩ := hY
 refine callsIn_of_wp Tryz.func150 rfl trivial ?_ rfl
 simp only [Tryz.ntmps150, List.size_toArray, List.length_cons, List.length_nil, Nat.reduceAdd, Nat.reduceSub, Array.replicate_succ, Array.replicate_zero, List.push_toArray, List.append_toArray, List.nil_append, List.cons_append]
 gi_wp2
 refine hR.mono ?_
 rintro e W' ⟨rfl, hX⟩
 gi_wp2
 exact bodyPost_ret (v := .int .i64 t) (by simp [results, Tryz.results150, go_sem]) rfl ⟨rfl, hX⟩
theorem goes1_seq (n : Nat) (op d a b : Int) (sl : Value) (hsl : ∃ o len cap, sl = .slice o len cap) (k xb kb : Nat) (hk2 : k ≤ 1000000) (w : World) (hx : BoxL w xb 34 [.int .i64 op, .int .i64 d, .int .i64 a, .int .i64 b, sl]) (hkb : BoxL w kb 3 [.int .i64 k])
  (l : Nat) (J : List Int → World → Prop) (W : World) (hJ : ∀ s, AbI w.heap.size (J s)) (hb : Below w.heap.size w W)
  (hY : ∀ m pre y W1, J pre W1 → pre.length < 2 → YieldAt Fence.wide m Tryz.prog l #[.int .i64 y] W1 fun e W' => e = .returned (.bool true) ∧ J (pre ++ [y]) W' ∧ KpI W1 W') (h0 : J [] W) :
  CallsIn Fence.wide n Tryz.prog 149 (#[.func (.yield l) #[] #[]] ++ #[.pointer (some ⟨xb, 0, none⟩), .pointer (some ⟨kb, 0, none⟩)]) W fun e W' => (∃ v, e = .returned v) ∧ J (succsI op a b k) W' := by
 obtain ⟨o, len, cap, rfl⟩ := hsl
 have HX := Lib.hid (hx.keep hb)
 have HK := Lib.hid (hkb.keep hb)
 have hW := hb.size
 have HJ := Lib.hid hJ
 have HY := Lib.hid hY
 obtain ⟨W1, hW1⟩ : ∃ W1, W.alloc (.cells #[.func (.yield l) #[] #[]] 95) = W1 := ⟨_, rfl⟩
 have HYB := Lib.hid (show BoxL W1 W.heap.size 95 [.func (.yield l) #[] #[]] from by rw [← hW1]; exact BoxL.new rfl _ _)
 have HX1 := Lib.hid (show BoxL W1 xb 34 _ from by rw [← hW1]; exact HX.out.alloc _)
 have HK1 := Lib.hid (show BoxL W1 kb 3 _ from by rw [← hW1]; exact HK.out.alloc _)
 have H0 := Lib.hid (show J [] W1 from by rw [← hW1]; exact (hJ []).alloc h0 _)
 have hs1 : W1.heap.size = W.heap.size + 1 := by rw [← hW1]; simp
 have HS1 := Lib.hid hs1
 have hW1s : w.heap.size ≤ W1.heap.size := by omega
 have HW1 := Lib.hid hW1
 clear hx hkb hb hJ hY h0 hW1 hs1
 have c0 := HX.out.cell 0 rfl
 have c1 := HX.out.cell 1 rfl
 have c2 := HX.out.cell 2 rfl
 have c3 := HX.out.cell 3 rfl
 have c4 := HX.out.cell 4 rfl
 have hxl := HX.out.lt
 have k0 := HK.out.cell 0 rfl
 have hkl := HK.out.lt
 have HN : Hid (∀ W2, J (succsI op a b k).dropLast W2 → True) := Lib.hid (fun _ _ => trivial)
 clear HN
 by_cases h15 : op = 15
 ·subst h15
  have HC := Lib.hid (fun X Y => (callsIn_wide (n := 1)).1 (goes11_in 0 l a W.heap.size ((W1.alloc X).alloc Y) (fun W' => J [a] W' ∧ KpI ((W1.alloc X).alloc Y) W') ((HYB.out.alloc X).alloc Y) (HY.out 0 [] a _ ((HJ.out []).alloc ((HJ.out []).alloc H0.out X) Y) (by decide))))
  have HN := Lib.hid (callsIn_wide (n := n - 1) |>.2 (pnamedJ_15 150 #[.pointer (some ⟨W.heap.size, 0, none⟩)] d a b (.slice o len cap) W1 ⟨_, _, _, rfl⟩ (fun _ _ => rfl) w.heap.size (J []) (J [a]) (HJ.out _) (HJ.out _) H0.out hW1s (fun X Y _ => HC.out X Y)))
  rw [← HW1.out] at HN
  clear HC HW1 HYB HX1 HK1 H0 HY HJ HS1 hW1s
  rw [show succsI 15 a b k = [a] from rfl]
  refine callsIn_of_wp Tryz.func149 rfl trivial ?_ rfl
  simp only [Tryz.ntmps149, List.size_toArray, List.length_cons, List.length_nil, Nat.reduceAdd, Nat.reduceSub, Array.replicate_succ, Array.replicate_zero, List.push_toArray, List.append_toArray, List.nil_append, List.cons_append]
  gi_wp2
  refine ⟨fun _ h => (by cases h), ?_⟩
  gi_wp2
  refine ⟨trivial, fun h => (by cases h), ?_⟩
  refine HN.out.mono ?_
  rintro e w2 ⟨⟨v, rfl⟩, hj⟩
  gi_wp2
  go_end0
  exact ⟨⟨_, rfl⟩, hj⟩
 ·have f15 : (op != 15) = true := by simpa using h15
  by_cases h19 : op < 19
  ·have f19 : decide (op < 19) = true := decide_eq_true h19
   obtain ⟨fn, tmps, assign, body, hy, hR⟩ := HY.out (n - 1) [] ((k : Int) + 1) W1 H0.out (by decide)
   rw [← HW1.out] at hy hR
   have HR := Lib.hid hR
   have HX1' := Lib.hid (show BoxL (W.alloc (.cells #[.func (.yield l) #[] #[]] 95)) xb 34 _ from HX.out.alloc _)
   have HYB' := Lib.hid (show BoxL (W.alloc (.cells #[.func (.yield l) #[] #[]] 95)) W.heap.size 95 [.func (.yield l) #[] #[]] from BoxL.new rfl _ _)
   obtain ⟨S, hS⟩ : ∃ S, succsI op a b k = S := ⟨_, rfl⟩
   rw [hS]
   have HS := Lib.hid hS
   clear hR HX1 HYB HK1 HS1 H0 hS
   refine callsIn_of_wp Tryz.func149 rfl trivial ?_ rfl
   simp only [Tryz.ntmps149, List.size_toArray, List.length_cons, List.length_nil, Nat.reduceAdd, Nat.reduceSub, Array.replicate_succ, Array.replicate_zero, List.push_toArray, List.append_toArray, List.nil_append, List.cons_append]
   gi_wp2
   refine ⟨fun h => (by cases h), ?_⟩
   refine HR.out.mono ?_
   rintro e W' ⟨rfl, hj, hkp⟩
   have X' := hkp _ _ _ (.inl rfl) HX1'.out
   have Y' := hkp _ _ _ (.inr rfl) HYB'.out
   have HJ1 := Lib.hid (show J [(k : Int) + 1] W' from hj)
   have c0 := X'.cell 0 rfl
   have c1 := X'.cell 1 rfl
   have c2 := X'.cell 2 rfl
   have c3 := X'.cell 3 rfl
   have c4 := X'.cell 4 rfl
   have hlt' := X'.lt
   have hly := Y'.lt
   have HY2 := Lib.hid Y'
   clear X' Y' hj hkp hy HR HX1' HYB'
   by_cases h16 : op = 16
   ·subst h16
    have HC := Lib.hid (fun X Y => (callsIn_wide (n := 1)).1 (goes11_in 0 l b W.heap.size ((W'.alloc X).alloc Y) (fun W2 => J [(k : Int) + 1, b] W2 ∧ KpI ((W'.alloc X).alloc Y) W2) ((HY2.out.alloc X).alloc Y) (HY.out 0 [(k : Int) + 1] b _ ((HJ.out _).alloc ((HJ.out _).alloc HJ1.out X) Y) (by simp))))
    have HN := Lib.hid (callsIn_wide (n := n - 1) |>.2 (pnamedJ_16 150 #[.pointer (some ⟨W.heap.size, 0, none⟩)] d a b (.slice o len cap) W' ⟨_, _, _, rfl⟩ (fun _ _ => rfl) w.heap.size (J [(k : Int) + 1]) (J [(k : Int) + 1, b]) (HJ.out _) (HJ.out _) HJ1.out (by omega) (fun X Y _ => HC.out X Y)))
    clear HC HY HJ HY2 HJ1 HW1
    gi_wp2
    refine ⟨trivial, fun h => (by cases h), ?_⟩
    refine HN.out.mono ?_
    rintro e w2 ⟨⟨v, rfl⟩, hj⟩
    gi_wp2
    go_end0
    exact ⟨⟨_, rfl⟩, by rw [show S = [(k : Int) + 1, b] from by rw [← HS.out]; rfl]; exact hj⟩
   ·have HN := Lib.hid (callsIn_wide (n := n - 1) |>.2 (pnamedJ_other op h15 h16 150 #[.pointer (some ⟨W.heap.size, 0, none⟩)] d a b (.slice o len cap) W' ⟨_, _, _, rfl⟩ w.heap.size (J [(k : Int) + 1]) (HJ.out _) HJ1.out))
    have HE := Lib.hid (show S = [(k : Int) + 1] from by rw [← HS.out]; simp [succsI, h15, h19, h16])
    clear HY HJ HY2 HJ1 HW1
    gi_wp2
    refine ⟨trivial, fun h => (by cases h), ?_⟩
    refine HN.out.mono ?_
    rintro e w2 ⟨⟨v, rfl⟩, hj⟩
    gi_wp2
    go_end0
    exact ⟨⟨_, rfl⟩, by rw [HE.out]; exact hj⟩
  ·have f19 : decide (op < 19) = false := decide_eq_false h19
   have HN := Lib.hid (callsIn_wide (n := n - 1) |>.2 (pnamedJ_other op h15 (by omega) 150 #[.pointer (some ⟨W.heap.size, 0, none⟩)] d a b (.slice o len cap) W1 ⟨_, _, _, rfl⟩ w.heap.size (J []) (HJ.out _) H0.out))
   have HE := Lib.hid (show succsI op a b k = [] from by rw [succsI, if_neg (by omega), if_neg h15, if_neg (by omega)]; rfl)
   rw [← HW1.out] at HN
   rw [HE.out]
   clear HW1 HYB HX1 HK1 H0 HY HJ HS1 hW1s HE
   refine callsIn_of_wp Tryz.func149 rfl trivial ?_ rfl
   simp only [Tryz.ntmps149, List.size_toArray, List.length_cons, List.length_nil, Nat.reduceAdd, Nat.reduceSub, Array.replicate_succ, Array.replicate_zero, List.push_toArray, List.append_toArray, List.nil_append, List.cons_append]
   gi_wp2
   refine ⟨fun _ h => (by cases h), ?_⟩
   gi_wp2
   refine ⟨trivial, fun h => (by cases h), ?_⟩
   refine HN.out.mono ?_
   rintro e w2 ⟨⟨v, rfl⟩, hj⟩
   gi_wp2
   go_end0
   exact ⟨⟨_, rfl⟩, hj⟩
theorem goes_any (c0 c1 c2 c3 c4 : Value) (k : Nat) (w : World) (h : ∃ x B w0, InsR w0 B x [c0, c1, c2, c3, c4]) :
  Calls Tryz.prog 131 #[.agg #[c0, c1, c2, c3, c4], .int .i64 k] w fun e w' => e = .returned (.func (.func 149) #[] #[.pointer (some ⟨w.heap.size, 0, none⟩), .pointer (some ⟨w.heap.size + 1, 0, none⟩)]) ∧ w' = (w.alloc (.cells #[c0, c1, c2, c3, c4] 34)).alloc (.cells #[.int .i64 k] 3) := by
 obtain ⟨x, B, w0, sl, he, _, _, _, _, hsl⟩ := h
 obtain ⟨o, n, c, rfl⟩ := hsl.form
 simp only [List.cons.injEq, and_true] at he
 obtain ⟨rfl, rfl, rfl, rfl, rfl⟩ := he
 clear hsl
 go_enter Tryz.func131, Tryz.ntmps131
 go_wp2_with fail
 go_ret
 exact ⟨rfl, rfl⟩
end
section
open Go Go.RowKit Go.Shelf
attribute [local go_sem] Oper.semAt_some
def ReI (H ob tb len : Nat) (w0 : World) (met : Nat → Bool) (todo : List Int) (W : World) : Prop :=
 ∃ v, Below H w0 W ∧ H ≤ W.heap.size ∧ W.rowIs ob 4 len (fun i => .bool (met i)) ∧ BoxL W tb 32 [v] ∧ (∃ o l c, v = .slice o l c) ∧ W.ownsRow H 3 1 v todo.length (todo.map (Value.int .i64)) ∧ H ≤ ob ∧ H ≤ tb
theorem ReI.ab {H ob tb len B : Nat} {w0 : World} {met : Nat → Bool} {todo : List Int} (hB : H ≤ B) : AbO B (ReI H ob tb len w0 met todo) := by
 rintro W W' row ⟨v, h1, h2, h3, h4, h5, h6, h7, h8⟩ hg hr
 have hne : ∀ (b : Nat) (cs : Array Value) (t : TypeId) (f : Nat × Nat), W.heap[b]? = some (.cells cs t f) → t ≠ 34 → some b ≠ row := by
  rintro b cs t f hb ht rfl
  obtain ⟨_, o, ho, hc⟩ := hr b rfl
  rw [hb] at ho
  cases ho
  rcases hc with hc | ⟨cs', f', hc⟩
  ·cases hc
  ·cases hc; exact ht rfl
 refine ⟨v, h1.grown hg h2 (fun k e => Nat.le_trans hB (hr k e).1), Nat.le_trans h2 hg.size, ?_, (hg.block tb h4.lt (hne tb _ _ _ h4 (by decide))).trans h4, h5, ?_, h7, h8⟩
 ·refine h3.of_block (hg.block ob h3.lt ?_)
  obtain ⟨c, hc, _⟩ := h3
  exact hne ob _ _ _ hc (by decide)
 ·refine h6.kept hg ?_
  rcases h6.2 with ⟨rfl, _⟩ | ⟨g, cap, cur, rfl, _, hgb, _⟩
  ·exact .inl rfl
  ·exact .inr (hne g _ _ _ hgb (by decide))
def Marks (H : Nat) (ds : List Nat) (W : World) : Prop := ds.Nodup ∧ ∀ D ∈ ds, H ≤ D ∧ W.heap[D]? = some (.deferred (some []))
theorem Marks.ab {H B : Nat} {ds : List Nat} (hB : ∀ D ∈ ds, D < B) : AbO B (Marks H ds) := by
 rintro W W' row ⟨h1, h2⟩ hg hr
 refine ⟨h1, fun D hD => ⟨(h2 D hD).1, (hg.block D (Array.getElem?_eq_some_iff.1 (h2 D hD).2).1 (fun e => ?_)).trans (h2 D hD).2⟩⟩
 have := (hr D e.symm).1
 have := hB D hD
 omega
theorem Marks.others {H : Nat} {ds : List Nat} {W W' : World} (h : Marks H ds W) (hk : KeepsOthers W W') : Marks H ds W' := ⟨h.1, fun D hD => ⟨(h.2 D hD).1, hk.same D _ (h.2 D hD).2 rfl⟩⟩
theorem Marks.cons {H D : Nat} {ds : List Nat} {W : World} (h : Marks H ds W) (hD : H ≤ D) (hd : W.heap[D]? = some (.deferred (some []))) (hn : ∀ D' ∈ ds, D' < D) : Marks H (D :: ds) W :=
 ⟨List.nodup_cons.2 ⟨fun hm => by have := hn D hm; omega, h.1⟩, fun D' hm => by
  rcases List.mem_cons.1 hm with rfl | hm
  ·exact ⟨hD, hd⟩
  ·exact h.2 D' hm⟩
def unm (met : Nat → Bool) : Nat → Nat
 | 0 => 0
 | n + 1 => unm met n + if met n then 0 else 1
theorem unm_le (met : Nat → Bool) : ∀ n, unm met n ≤ n
 | 0 => Nat.le_refl _
 | n + 1 => by have := unm_le met n; rw [unm]; split <;> omega
def setB (met : Nat → Bool) (k : Nat) : Nat → Bool := fun i => if i = k then true else met i
theorem unm_set {met : Nat → Bool} {k : Nat} (hk : met k = false) : ∀ {n : Nat}, unm (setB met k) n + (if k < n then 1 else 0) = unm met n
 | 0 => by simp [unm]
 | n + 1 => by
  have ih := unm_set hk (n := n)
  rw [unm, unm]
  by_cases e : n = k
  ·subst e
   have e1 : setB met n n = true := by simp [setB]
   rw [e1, hk]
   rw [if_neg (Nat.lt_irrefl n)] at ih
   simp
   omega
  ·have e1 : setB met k n = met n := by simp [setB, e]
   rw [e1]
   by_cases hl : k < n
   ·rw [if_pos hl] at ih
    have e2 : (if k < n + 1 then 1 else 0) = 1 := if_pos (by omega)
    omega
   ·rw [if_neg hl] at ih
    have e2 : (if k < n + 1 then 1 else 0) = 0 := if_neg (by omega)
    omega
structure Dfs (code : List Ins) (met : Nat → Bool) (todo : List Int) : Prop where
 todo_in : ∀ t ∈ todo, ∃ n : Nat, t = n ∧ n < code.length ∧ Peep.Reach code n
 met_in : ∀ k, met k = true → k < code.length ∧ Peep.Reach code k
 shut : ∀ k x, met k = true → code[k]? = some x → ∀ j ∈ Peep.succs x k, met j = true ∨ (j : Int) ∈ todo
 first : met 0 = true ∨ (0 : Int) ∈ todo
theorem Dfs.start {code : List Ins} (h : Peep.Closed code) : Dfs code (fun _ => false) [0] :=
 ⟨fun t ht => ⟨0, by simpa using ht, h.1, .zero⟩, (fun _ h => by cases h), (fun _ _ h => by cases h), .inr (by simp)⟩
theorem Dfs.pop {code : List Ins} {met : Nat → Bool} {ts : List Int} {t : Nat} (h : Dfs code met (ts ++ [(t : Int)])) (hm : met t = true) : Dfs code met ts := by
 refine ⟨fun x hx => h.todo_in x (by simp [hx]), h.met_in, fun k x hk hx j hj => ?_, ?_⟩
 ·rcases h.shut k x hk hx j hj with h1 | h1
  ·exact .inl h1
  ·rcases List.mem_append.1 h1 with h1 | h1
   ·exact .inr h1
   ·have h1 : (j : Int) = t := by simpa using h1
    obtain rfl : j = t := by omega
    exact .inl hm
 ·rcases h.first with h1 | h1
  ·exact .inl h1
  ·rcases List.mem_append.1 h1 with h1 | h1
   ·exact .inr h1
   ·have : (0 : Int) = t := by simpa using h1
    obtain rfl : t = 0 := by omega
    exact .inl hm
theorem succsI_eq {x : Ins} {k : Nat} (h15 : x.op = 15 → 0 ≤ x.a) (h16 : x.op = 16 → 0 ≤ x.b) : succsI x.op x.a x.b k = (Peep.succs x k).map fun j : Nat => (j : Int) := by
 simp only [succsI, Peep.succs, List.map_append]
 congr 1
 ·split <;> rfl
 ·split
  ·rename_i h
   have := h15 h
   simp; omega
  ·split
   ·rename_i h
    have := h16 h
    simp; omega
   ·rfl
theorem Dfs.go {code : List Ins} {met : Nat → Bool} {ts : List Int} {t : Nat} {x : Ins} (h : Dfs code met (ts ++ [(t : Int)])) (hcl : Peep.Closed code) (hx : code[t]? = some x) : Dfs code (setB met t) (ts ++ (Peep.succs x t).map fun j : Nat => (j : Int)) := by
 obtain ⟨n, hn, hnl, hnr⟩ := h.todo_in t (by simp)
 obtain rfl : n = t := by omega
 have hset : ∀ k, setB met n k = true ↔ k = n ∨ met k = true := fun k => by unfold setB; split <;> simp_all
 refine ⟨fun y hy => ?_, fun k hk => ?_, fun k y hk hy j hj => ?_, ?_⟩
 ·rcases List.mem_append.1 hy with hy | hy
  ·exact h.todo_in y (by simp [hy])
  ·obtain ⟨j, hj, rfl⟩ := List.mem_map.1 hy
   exact ⟨j, rfl, hcl.2 n x hx j hj, .step hnr hx hj⟩
 ·rcases (hset k).1 hk with rfl | hk
  ·exact ⟨hnl, hnr⟩
  ·exact h.met_in k hk
 ·rcases (hset k).1 hk with rfl | hk
  ·obtain rfl := Option.some.inj (hx.symm.trans hy)
   exact .inr (List.mem_append.2 (.inr (List.mem_map.2 ⟨j, hj, rfl⟩)))
  ·rcases h.shut k y hk hy j hj with h1 | h1
   ·exact .inl ((hset j).2 (.inr h1))
   ·rcases List.mem_append.1 h1 with h1 | h1
    ·exact .inr (List.mem_append.2 (.inl h1))
    ·have h1 : (j : Int) = n := by simpa using h1
     obtain rfl : j = n := by omega
     exact .inl ((hset j).2 (.inl rfl))
 ·rcases h.first with h1 | h1
  ·exact .inl ((hset 0).2 (.inr h1))
  ·rcases List.mem_append.1 h1 with h1 | h1
   ·exact .inr (List.mem_append.2 (.inl h1))
   ·have : (0 : Int) = n := by simpa using h1
    obtain rfl : n = 0 := by omega
    exact .inl ((hset 0).2 (.inl rfl))
theorem Dfs.done {code : List Ins} {met : Nat → Bool} (h : Dfs code met []) (k : Nat) : met k = true ↔ Peep.Reach code k :=
 ⟨fun hk => (h.met_in k hk).2, fun hk => Peep.Reach.sub (S := fun j => met j = true) (h.first.resolve_right (by simp)) (fun j x hj hx i hi => (h.shut j x hj hx i hi).resolve_right (by simp)) hk⟩
theorem succs_two (x : Ins) (k : Nat) : (Peep.succs x k).length ≤ 2 := by
 unfold Peep.succs
 rw [List.length_append]
 have h1 : (if x.op ≠ 15 ∧ x.op < 19 then [k + 1] else []).length ≤ 1 := by split <;> simp
 have h2 : (if x.op = 15 then [x.a.toNat] else if x.op = 16 then [x.b.toNat] else []).length ≤ 1 := by
  split
  ·simp
  ·split <;> simp
 omega
def RePost (code : List Ins) (w : World) (e : Ending) (w' : World) : Prop := ∃ v bs, e = .returned v ∧ SlC w' w'.heap.size 1 BoolR bs v ∧ bs.length = code.length ∧ (∀ k b, bs[k]? = some b → (b = true ↔ Peep.Reach code k)) ∧ Below w.heap.size w w'
theorem bools_of_row {W : World} {b n : Nat} {f : Nat → Bool} (h : W.rowIs b 4 n (fun i => .bool (f i))) (hn : n ≤ 9223372036854775807) : SlC W W.heap.size 1 BoolR ((List.range n).map f) (.slice (some ⟨b, 0, none⟩) n n) := by
 refine ⟨some ⟨b, 0, none⟩, n, n, rfl, by simp, Nat.le_refl _, hn, fun _ => ⟨rfl, h.lt⟩, fun i x hx => ?_⟩
 simp only [List.getElem?_map, Option.map_eq_some_iff] at hx
 obtain ⟨k, hk, rfl⟩ := hx
 have hlt := (List.getElem?_eq_some_iff.1 hk).1
 have hki : k = i := by
  have := (List.getElem?_eq_some_iff.1 hk).2
  simpa using this.symm
 subst hki
 refine ⟨[.bool (f k)], rfl, fun j u hj => ?_, rfl⟩
 match j, hj with
 | 0, hj =>
  obtain rfl : .bool (f k) = u := by simpa using hj
  have := h.cell (i := k) (by simpa using hlt)
  simpa using this
 | j + 1, hj => simp at hj
theorem KpI.set {W : World} {b i : Nat} {t : TypeId} {cs : List Value} {v : Value} (hb : BoxL W b t cs) (h1 : t ≠ 34) (h2 : t ≠ 95) : KpI W (W.setCell ⟨b, i, none⟩ v) := fun b' t' cs' ht hb' => hb'.other _ _ (hb'.ne hb (by rcases ht with rfl | rfl; exact h1.symm; exact h2.symm))
theorem KpI.grown {W W' : World} {row : Option Nat} (hg : W.grownBy W' row) (hr : ∀ r, row = some r → ∃ cs t f, W.heap[r]? = some (.cells cs t f) ∧ t ≠ 34 ∧ t ≠ 95) : KpI W W' := fun b t cs ht hb => (hg.block b hb.lt (fun e => by
  obtain ⟨cs', t', f', h1, h2, h3⟩ := hr b e.symm
  rw [show W.heap[b]? = _ from hb] at h1
  cases h1
  rcases ht with rfl | rfl
  ·exact h2 rfl
  ·exact h3 rfl)).trans hb
theorem KpI.alloc (W : World) (o : Obj) : KpI W (W.alloc o) := fun _ _ _ _ hb => hb.alloc o
theorem own_row {W : World} {base n size : Nat} {e : TypeId} {v : Value} {xs : List Value} (h : W.ownsRow base e size v n xs) : ∀ r, v.ownBlock = some r → ∃ cs f, W.heap[r]? = some (.cells cs e f) := by
 intro r hr
 rcases h.2 with ⟨rfl, _⟩ | ⟨g, cap, cur, rfl, _, hgb, _⟩
 ·cases hr
 ·simp only [Value.ownBlock, Option.some.injEq] at hr
  subst hr
  exact ⟨_, _, hgb⟩
theorem info_bool : (Tryz.prog.info? 4).map (fun i => (i.zero, i.size, i.bytes)) = some (some (.bool false), 1, 1) := by kernel_rfl
theorem reached_any : ReachedOk := by
 intro code o len cap B w hv hB hcl hi hm
 show Calls _ _ _ w (RePost code w)
 obtain ⟨hlen, hcap, hmax⟩ := hv.lens
 have HL := Lib.hid hlen
 have HV := Lib.hid hv
 have HI := Lib.hid hi
 have HCL := Lib.hid hcl
 have hm' : len ≤ 100000 := by omega
 have hmk := run_make_row' (P := Tryz.prog) 52 4 (.bool false) 1 Tryz.underlying52 info_bool rfl .i64 .i64 len (by omega) (by omega)
 clear hlen hv hi hcl hm
 refine (callsIn_wide (n := 0)).1 ?_
 refine callsIn_of_wp_marks Tryz.func88 rfl trivial ?_ rfl
 simp only [Tryz.ntmps88, List.size_toArray, List.length_cons, List.length_nil, Nat.reduceAdd, Nat.reduceSub, Array.replicate_succ, Array.replicate_zero, List.push_toArray, List.append_toArray, List.nil_append, List.cons_append]
 have HD0 := Lib.hid (Dfs.start HCL.out)
 have HR0 := Lib.hid (show ReI w.heap.size w.heap.size (w.heap.size + 1 + 1) len w (fun _ => false) [0] (((w.alloc (.cells (madeCells #[.bool false] len) 4)).alloc (.cells #[.int .i64 0] 3)).alloc (.cells #[.slice (some ⟨w.heap.size + 1, 0, none⟩) 1 1] 32)) from
  ⟨_, ((Below.one w _).trans ((Below.one _ _).mono (by simp))).trans ((Below.one _ _).mono (by simp; omega)), by simp; omega, ((World.rowIs_made w (.bool false) len 4).alloc _).alloc _, BoxL.new (by simp) _ _, ⟨_, _, _, rfl⟩, (ownsRow_new (W := w.alloc (.cells (madeCells #[.bool false] len) 4)) (b := w.heap.size + 1) (base := w.heap.size) (by simp) (by omega) 3 1 1 [.int .i64 0] rfl (by unfold maxLen; omega)).alloc _, Nat.le_refl _, by omega⟩)
 have hlen0 := unm_le (fun _ => false) len
 gi_wp2
 refine wpIn_loop_ghost_k (fun G a W => ∃ (u5 : Value) (u11 : Value) (u12 : Value) (u13 : Value) (u14 : Value) (u15 : Value) (u16 : Value) (u17 : Value) (u18 : Value) (u19 : Value) (u20 : Value) (u21 : Value) (u22 : Value) (u23 : Value) (u24 : Value) (u25 : Value) (u26 : Value) (u27 : Value) (u28 : Value) (u29 : Value) (u30 : Value) (u31 : Value) (u32 : Value) (u33 : Value) (u34 : Value) (u35 : Value) (u36 : Value) (u37 : Value) (u38 : Value) (ds : List Nat), (∃ (met : Nat → Bool) (todo : List Int), G = todo.length + 2 * unm met len ∧ G ≤ 1 + 2 * len ∧ Hid (Dfs code met todo) ∧ Hid (ReI w.heap.size w.heap.size (w.heap.size + 1 + 1) len w met todo W) ∧ Hid (Marks w.heap.size ds W)) ∧ a = { tmps := #[.slice o len cap, undef, .slice none 0 0, .slice (some ⟨w.heap.size, 0, none⟩) len len, .pointer (some ⟨w.heap.size + 1 + 1, 0, none⟩), u5, undef, .slice o len cap, .int .i64 len, .slice (some ⟨w.heap.size, 0, none⟩) len len, .slice (some ⟨w.heap.size + 1, 0, none⟩) 1 1, u11, u12, u13, u14, u15, u16, u17, u18, u19, u20, u21, u22, u23, u24, u25, u26, u27, u28, u29, u30, u31, u32, u33, u34, u35, u36, u37, u38, undef, undef, undef, undef, undef, undef], defers := ds.map fun D => { target := .collected D, args := #[] } }) (1 + 2 * unm (fun _ => false) len) ?start ?round
 case start => exact ⟨undef, undef, undef, undef, undef, undef, undef, undef, undef, undef, undef, undef, undef, undef, undef, undef, undef, undef, undef, undef, undef, undef, undef, undef, undef, undef, undef, undef, undef, [], ⟨fun _ => false, [0], rfl, by omega, HD0, HR0, ⟨List.nodup_nil, fun D h => by cases h⟩⟩, rfl⟩
 case round =>
  intro G _ wr hinv
  obtain ⟨u5, u11, u12, u13, u14, u15, u16, u17, u18, u19, u20, u21, u22, u23, u24, u25, u26, u27, u28, u29, u30, u31, u32, u33, u34, u35, u36, u37, u38, ds, hrel, ha⟩ := hinv
  subst ha
  obtain ⟨met, todo, hG, hGl, HD, HR, HM⟩ := hrel
  intro J K hJ hK
  have HG := Lib.hid hG
  clear hG HD0 HR0 hlen0 hmk
  obtain ⟨v, hb, hH, hr, hbx, ⟨o1, l1, c1, rfl⟩, hown, hob, htb⟩ := HR.out
  have x0 := hbx.cell 0 rfl
  have z0 := hbx.free 0
  have hxl := hbx.lt
  rcases List.eq_nil_or_concat todo with rfl | ⟨ts, t, htt⟩
  ·obtain ⟨rfl⟩ : l1 = 0 := by
    rcases hown.2 with ⟨h, _⟩ | ⟨g, cap', cur, h, _⟩
    ·simp only [Value.slice.injEq] at h; exact h.2.1
    ·simp only [Value.slice.injEq] at h; exact h.2.1
   have HDD := Lib.hid HD.out.done
   have HB1 := Lib.hid hb
   have HR1 := Lib.hid hr
   gi_wp2
   show LeavesInM Fence.wide 0 Tryz.prog Tryz.f88 _ (RePost code w) (ds.map _) .returning wr
   refine leaves_marks (H := w.heap.size) (fun W' => Below w.heap.size w W' ∧ w.heap.size ≤ W'.heap.size ∧ W'.rowIs w.heap.size 4 len (fun i => .bool (met i))) ?_ ?_ ds wr HM.out.1 HM.out.2 ⟨HB1.out, hH, HR1.out⟩
   ·rintro W' D ⟨h1, h2, h3⟩ hD hd
    have hlt := (Array.getElem?_eq_some_iff.1 hd).1
    refine ⟨h1.grown (grownBy_putObj' W' D _) h2 (fun k e => by cases e; exact hD), by simpa using h2, h3.of_block (World.putObj_heap_other ?_)⟩
    rintro rfl
    obtain ⟨c, hc, _⟩ := h3
    rw [hd] at hc
    cases hc
   ·rintro W' ⟨h1, _, h3⟩
    refine ⟨_, results_tmp rfl _ _ _, ?_⟩
    refine ⟨_, (List.range len).map met, rfl, bools_of_row h3 (by omega), by simp; exact HL.out, fun k b hk => ?_, h1⟩
    simp only [List.getElem?_map, Option.map_eq_some_iff] at hk
    obtain ⟨q, hq, rfl⟩ := hk
    have hqk : q = k := by
     have := (List.getElem?_eq_some_iff.1 hq).2
     simpa using this.symm
    subst hqk
    exact HDD.out q
  ·rw [List.concat_eq_append] at htt
   subst htt
   obtain ⟨m, hm⟩ : ∃ m, ts.length = m := ⟨_, rfl⟩
   obtain ⟨tn, rfl, htn, _⟩ := HD.out.todo_in t (by simp)
   rw [← HL.out] at htn
   have hown' : wr.ownsRow w.heap.size 3 1 (.slice o1 l1 c1) (m + 1) ((ts ++ [(tn : Int)]).map (Value.int .i64)) := by
    have := hown
    rwa [List.length_append, hm] at this
   obtain ⟨g, cap1, L, hv1, hg, hbxg, htk, hn1, hc1, hL1⟩ := RowB.of_own hown' (by omega)
   simp only [Value.slice.injEq] at hv1
   obtain ⟨rfl, rfl, rfl⟩ := hv1
   have ct : wr.cell? ⟨g, m, none⟩ = some (.int .i64 tn) := by
    refine hbxg.cell m ?_
    have h : (L.take ((m + 1) * 1))[m]? = some (.int .i64 tn) := by
     rw [htk, List.map_append, List.getElem?_append_right (by simp [hm])]
     simp [hm]
    rw [List.getElem?_take] at h
    split at h
    ·exact h
    ·cases h
   have HROW := Lib.hid (show ∀ W, BoxL W g 3 L → W.ownsRow w.heap.size 3 1 (.slice (some ⟨g, 0, none⟩) m c1) m (ts.map (Value.int .i64)) from fun W hW => (show RowB w.heap.size 3 1 m (ts.map (Value.int .i64)) (.slice (some ⟨g, 0, none⟩) m c1) W from ⟨g, c1, L, rfl, hg, hW, by
    have h : (L.take ((m + 1) * 1)).take (m * 1) = ((ts ++ [(tn : Int)]).map (Value.int .i64)).take m := by rw [htk, Nat.mul_one]
    rw [List.take_take, Nat.min_eq_left (by omega)] at h
    rw [h, List.map_append, List.take_append_of_le_length (by simp [hm]), List.take_of_length_le (by simp [hm])], by omega, hc1, hL1⟩).own)
   have hm2 : m ≤ 200001 := by
    have h := HG.out
    rw [List.length_append, hm] at h
    omega
   have HM0 := Lib.hid hm
   have HHB := Lib.hid hb
   have HHR := Lib.hid hr
   have hgl := hbxg.lt
   have HRE := Lib.hid (show ReI w.heap.size w.heap.size (w.heap.size + 1 + 1) len w met ts (wr.setCell ⟨w.heap.size + 1 + 1, 0, none⟩ (.slice (some ⟨g, 0, none⟩) m c1)) from
    ⟨_, hb.setCell (p := ⟨w.heap.size + 1 + 1, 0, none⟩) (by dsimp only; omega) _, by rw [World.size_setCell]; exact hH, hr.setOther (by dsimp only; omega) _, hbx.set 0 _, ⟨_, _, _, rfl⟩, by rw [hm]; exact HROW.out _ (hbxg.other _ _ (hbxg.ne hbx (by decide))), hob, htb⟩)
   have HMA := Lib.hid (show Marks w.heap.size ds (wr.setCell ⟨w.heap.size + 1 + 1, 0, none⟩ (.slice (some ⟨g, 0, none⟩) m c1)) from HM.out.others (KeepsOthers.setCell _ _ _))
   have cr := hr.cell (i := tn) htn
   have zr := hr.frozen tn
   have hlr := hr.lt
   have HW5 := Lib.hid (show (wr.setCell ⟨w.heap.size + 1 + 1, 0, none⟩ (.slice (some ⟨g, 0, none⟩) m c1)).cell? ⟨w.heap.size, tn, none⟩ = some (.bool (met tn)) from by
    obtain ⟨_, _, _, h3, _⟩ := HRE.out
    exact h3.cell htn)
   obtain ⟨q, hq⟩ : ∃ q, met tn = q := ⟨_, rfl⟩
   rw [hq] at cr HW5
   have HQ := Lib.hid hq
   clear hown hown' htk hL1 hm hb hr hbx hbxg hq
   obtain ⟨x, hx⟩ : ∃ x, code[tn]? = some x := ⟨_, List.getElem?_eq_getElem (by rw [← HL.out]; exact htn)⟩
   obtain ⟨b1, off1, cs, ho1, hbB, hcl, hcell, hins⟩ := HV.out.at (HHB.out.mono hB) hx
   subst ho1
   match cs, hcl with
   | [c0, c1', c2, c3, c4], _ =>
    have e0 := hcell 0 _ rfl
    have e1 := hcell 1 _ rfl
    have e2 := hcell 2 _ rfl
    have e3 := hcell 3 _ rfl
    have e4 := hcell 4 _ rfl
    rw [Nat.add_zero] at e0
    have HX := Lib.hid hx
    have HXI := Lib.hid (HI.out x (List.mem_of_getElem? hx))
    obtain ⟨op, d, a, b, l⟩ := x
    have HINS := Lib.hid hins
    obtain ⟨sl, he, _, _, _, _, hsl⟩ := hins
    obtain ⟨o4, l4, c4', rfl⟩ := hsl.form
    simp only [List.cons.injEq, and_true] at he
    obtain ⟨rfl, rfl, rfl, rfl, rfl⟩ := he
    have hbw : b1 < w.heap.size := by omega
    clear hcell hsl hx hcl
    cases q with
    | true =>
     have HDP := Lib.hid (HD.out.pop HQ.out)
     gi_wp2
     refine Handed.intro (m + 2 * unm met len) (by have h := HG.out; rw [List.length_append, HM0.out] at h; simp at h; omega) (hJ _ _ _ ?_)
     exact ⟨_, _, _, _, _, _, _, _, _, _, _, _, _, _, _, _, _, _, _, _, _, _, _, _, _, _, _, _, _, ds, ⟨met, ts, by rw [HM0.out], by have h := HG.out; rw [List.length_append, HM0.out] at h; simp at h; omega, HDP, HRE, HMA⟩, rfl⟩
    | false =>
     have HDG := Lib.hid (HD.out.go HCL.out HX.out)
     have HUN := Lib.hid (unm_set HQ.out (n := len))
     have HSE := Lib.hid (succsI_eq (x := ⟨op, d, a, b, l⟩) (k := tn) (fun h => (HXI.out.1 h).1) (fun h => (HXI.out.2 h).1))
     have HS2 := Lib.hid (succs_two ⟨op, d, a, b, l⟩ tn)
     have HR7 := Lib.hid (show ReI w.heap.size w.heap.size (w.heap.size + 1 + 1) len w (setB met tn) ts ((wr.setCell ⟨w.heap.size + 1 + 1, 0, none⟩ (.slice (some ⟨g, 0, none⟩) m c1)).setCell ⟨w.heap.size, tn, none⟩ (.bool true)) from by
      obtain ⟨v, g1, g2, g3, g4, g5, g6, g7, g8⟩ := HRE.out
      refine ⟨v, g1.setCell (p := ⟨w.heap.size, tn, none⟩) (Nat.le_refl _) _, by rw [World.size_setCell]; exact g2, (g3.set tn (.bool true)).congr (fun i _ => by unfold setB; split <;> rfl), g4.other _ _ (by dsimp only; omega), g5, ?_, g7, g8⟩
      exact ownsRow_set g6 _ _ (fun r hr e => by
       obtain ⟨cs, f, hc⟩ := own_row g6 r hr
       obtain ⟨c, hc', _⟩ := g3
       subst e
       rw [hc] at hc'
       simp at hc'))
     have HM7 := Lib.hid (show Marks w.heap.size ds ((wr.setCell ⟨w.heap.size + 1 + 1, 0, none⟩ (.slice (some ⟨g, 0, none⟩) m c1)).setCell ⟨w.heap.size, tn, none⟩ (.bool true)) from HMA.out.others (KeepsOthers.setCell _ _ _))
     gi_wp2
     refine ⟨trivial, rfl, ?_⟩
     refine (callsIn_wide.2 (goes_any _ _ _ _ _ tn _ ⟨_, _, _, HINS.out⟩)).mono ?_
     rintro e w2 ⟨rfl, hw2⟩
     simp only [World.size_setCell]
     have HX8 := Lib.hid (show BoxL w2 wr.heap.size 34 [.int .i64 op, .int .i64 d, .int .i64 a, .int .i64 b, .slice o4 l4 c4'] from by rw [hw2]; exact (BoxL.new (by simp) _ _).alloc _)
     have HK8 := Lib.hid (show BoxL w2 (wr.heap.size + 1) 3 [.int .i64 tn] from by rw [hw2]; exact BoxL.new (by simp) _ _)
     have HR8 := Lib.hid (show ReI w.heap.size w.heap.size (w.heap.size + 1 + 1) len w (setB met tn) ts w2 from by rw [hw2]; exact (ReI.ab (B := w.heap.size) (Nat.le_refl _)).i.alloc ((ReI.ab (B := w.heap.size) (Nat.le_refl _)).i.alloc HR7.out _) _)
     have HM8 := Lib.hid (show Marks w.heap.size ds w2 from by rw [hw2]; exact (HM7.out.others (KeepsOthers.alloc _ _)).others (KeepsOthers.alloc _ _))
     have hs8 : w.heap.size ≤ w2.heap.size := by rw [hw2]; simp; omega
     have hds : ∀ D ∈ ds, D < w2.heap.size := fun D hD => (Array.getElem?_eq_some_iff.1 (HM8.out.2 D hD).2).1
     have HDS := Lib.hid hds
     clear hw2 hds HR7 HM7 HRE HMA HROW e0 e1 e2 e3 e4 ct cr zr x0 z0 HW5 HHR HR HM HQ
     gi_wp2
     refine wpIn_range_all (gf := 149) (lb := #[.pointer (some ⟨wr.heap.size, 0, none⟩), .pointer (some ⟨wr.heap.size + 1, 0, none⟩)]) rfl (fun _ _ => rfl) (succsI op a b tn) 2 (fun l J W hJ hb hY h0 => goes1_seq _ op d a b _ ⟨_, _, _, rfl⟩ tn wr.heap.size (wr.heap.size + 1) (by omega) w2 HX8.out HK8.out l J W hJ hb hY h0) rfl
      (fun pre W => ReI w.heap.size w.heap.size (w.heap.size + 1 + 1) len w (setB met tn) (ts ++ pre) W ∧ Marks w.heap.size ds W) (fun s W W' row h hg hr => ⟨ReI.ab hs8 W W' row h.1 hg hr, Marks.ab HDS.out W W' row h.2 hg hr⟩) ⟨by rw [List.append_nil]; exact HR8.out, HM8.out⟩
      (fun a y => { tmps := (a.tmps.setIfInBounds 39 (.int .i64 y)).setIfInBounds 6 (.int .i64 y), defers := [] }) ?assign ?body ?done
     case assign =>
      intro l' m' y W K' hK'
      gi_wp2
      exact hK'
     case body =>
      rintro l' m' pre y W ⟨hI, hMk⟩ hpre
      obtain ⟨v, g1, g2, g3, g4, ⟨o9, l9, c9, rfl⟩, g6, g7, g8⟩ := hI
      simp only [List.setIfInBounds_toArray, List.set_cons_succ, List.set_cons_zero]
      obtain ⟨n, hn⟩ : ∃ n, (ts ++ pre).length = n := ⟨_, rfl⟩
      have hn2 : n ≤ 300000 := by rw [← hn, List.length_append, HM0.out]; omega
      rw [hn] at g6
      have HN := Lib.hid hn
      have hx0 := g4.cell 0 rfl
      have hz0 := g4.free 0
      have hl0 := g4.lt
      obtain ⟨i0, hi0, hz0', hz1, hz2⟩ := info_parts info_int
      have G1 := Lib.hid g1
      have G3 := Lib.hid g3
      have G4 := Lib.hid g4
      have G6 := Lib.hid g6
      have HMk := Lib.hid hMk
      clear hn g1 g3 g4 g6 hMk
      gi_wp2_with (gi_at_builtin; refine wpListIn_append_own _ rfl (.tmp 40) (.tmp 42) 32 rfl w.heap.size 3 i0 (.int .i64 0) 1 8 Tryz.underlying32 hi0 hz0' hz1 hz2 rfl (by decide) (.slice o9 l9 c9) n ((ts ++ pre).map (Value.int .i64)) rfl (G6.out.alloc _) ⟨W.heap.size, 0, none⟩ 1 1 [.int .i64 y] rfl rfl (new_cells W _ _) (by intro u hu; simp only [List.mem_cons, List.not_mem_nil, or_false] at hu; subst hu; rfl) (by unfold maxLen; omega) (by omega) (by simp; omega) ?_)
      intro v' w3 hown' hgrow _
      obtain ⟨g', cap', rfl⟩ := ownsRow_succ hown'
      obtain ⟨q1, q2, q3, q4, q5⟩ := Boxed.appended (show Boxed W (w.heap.size + 1 + 1) 32 (.slice o9 l9 c9) from G4.out) (by decide) G6.out g2 (by omega) hown' hgrow
      have hr3 := own_row (G6.out.alloc (.cells [Value.int .i64 y].toArray 3))
      have HK3 := Lib.hid (show KpI W (w3.setCell ⟨w.heap.size + 1 + 1, 0, none⟩ (.slice (some ⟨g', 0, none⟩) (n + 1) cap')) from ((KpI.alloc W _).trans (KpI.grown hgrow (fun r e => by obtain ⟨cs, f, hc⟩ := hr3 r e; exact ⟨cs, _, f, hc, by decide, by decide⟩))).trans (KpI.set (show BoxL w3 (w.heap.size + 1 + 1) 32 [.slice o9 l9 c9] from q1) (by decide) (by decide)))
      have HR3 := Lib.hid (show (w3.setCell ⟨w.heap.size + 1 + 1, 0, none⟩ (.slice (some ⟨g', 0, none⟩) (n + 1) cap')).rowIs w.heap.size 4 len (fun i => .bool (setB met tn i)) from by
       have h := G3.out.alloc (.cells [Value.int .i64 y].toArray 3)
       refine (h.of_block (hgrow.block _ h.lt ?_)).setOther (by dsimp only; omega) _
       intro e
       obtain ⟨cs, f, hc⟩ := hr3 _ e.symm
       obtain ⟨c, hc', _⟩ := h
       rw [hc] at hc'
       simp at hc')
      have HE3 := Lib.hid (show ReI w.heap.size w.heap.size (w.heap.size + 1 + 1) len w (setB met tn) (ts ++ (pre ++ [y])) (w3.setCell ⟨w.heap.size + 1 + 1, 0, none⟩ (.slice (some ⟨g', 0, none⟩) (n + 1) cap')) from by
       refine ⟨_, G1.out.trans q5, Nat.le_trans g2 q5.size, HR3.out, q2, ⟨_, _, _, rfl⟩, ?_, g7, g8⟩
       have e1 : (ts ++ (pre ++ [y])).length = n + 1 := by rw [← List.append_assoc, List.length_append, HN.out]; rfl
       have e2 : (ts ++ (pre ++ [y])).map (Value.int .i64) = ts.map (Value.int .i64) ++ (pre.map (Value.int .i64) ++ [.int .i64 y]) := by simp
       rw [e1, e2]
       exact q3)
      have HM3 := Lib.hid (HMk.out.others q4)
      have HF3 := Lib.hid (q4.from w2.heap.size)
      have hc1' := q1.cell
      have hf1' := q1.frozen
      have hl3 := q1.lt
      clear q1 q2 q3 q4 q5 hr3 hown' hgrow HR3
      gi_wp2
      exact ⟨rfl, HF3.out, HK3.out, HE3.out, HM3.out⟩
     case done =>
      rintro D W hD ⟨hI, hMk⟩ hd
      rw [HSE.out] at hI
      have HE := Lib.hid hI
      have HMk := Lib.hid (hMk.cons (by omega) hd (fun D' hD' => by have := HDS.out D' hD'; omega))
      clear hI hMk hd
      gi_wp2
      refine Handed.intro ((ts ++ (Peep.succs ⟨op, d, a, b, l⟩ tn).map fun j : Nat => (j : Int)).length + 2 * unm (setB met tn) len) ?_ (hJ _ _ _ ?_)
      ·have h := HG.out
       have h1 := HUN.out
       have h2 := HS2.out
       rw [List.length_append, HM0.out] at h
       rw [if_pos htn] at h1
       rw [List.length_append, List.length_map, HM0.out]
       simp at h
       omega
      ·refine ⟨_, _, _, _, _, _, _, _, _, _, _, _, _, _, _, _, _, _, _, _, _, _, _, _, _, _, _, _, _, D :: ds, ⟨setB met tn, _, rfl, ?_, HDG, HE, HMk⟩, rfl⟩
       have h := HG.out
       have h1 := HUN.out
       have h2 := HS2.out
       rw [List.length_append, HM0.out] at h
       rw [if_pos htn] at h1
       rw [List.length_append, List.length_map, HM0.out]
       simp at h
       omega
end
section
open Go Go.RowKit
def Sub (S : Nat → Prop) (U W : World) : Prop := ∀ b o v, U.cell? ⟨b, o, none⟩ = some v → b < W.heap.size ∧ ¬ S b ∧ W.cell? ⟨b, o, none⟩ = some v
theorem Sub.step {S S' : Nat → Prop} {U W W' : World} (h : Sub S U W) (hs : W.heap.size ≤ W'.heap.size) (hb : ∀ b, b < W.heap.size → ¬ S b → W'.heap[b]? = W.heap[b]?) (hS : ∀ b, b < W.heap.size → S' b → S b) : Sub S' U W' := fun b o v hc => by
 obtain ⟨h1, h2, h3⟩ := h b o v hc
 refine ⟨Nat.lt_of_lt_of_le h1 hs, fun hn => h2 (hS b h1 hn), ?_⟩
 unfold World.cell? at h3 ⊢
 rw [show W'.heap[({ block := b, off := o, spot := none } : Addr).block]? = W.heap[b]? from hb b h1 h2]
 exact h3
theorem Sub.below {S : Nat → Prop} {U W W' : World} (h : Sub S U W) (hb : Below W.heap.size W W') : Sub S U W' := h.step hb.size (fun b hlt _ => hb.block b hlt) (fun _ _ h => h)
theorem Sub.grown {S : Nat → Prop} {U W W' : World} {row : Option Nat} (h : Sub S U W) (hg : W.grownBy W' row) (hr : ∀ r, row = some r → S r) : Sub S U W' := h.step hg.size (fun b hlt hn => hg.block b hlt (fun e => hn (hr b e.symm))) (fun _ _ h => h)
theorem Sub.set {S : Nat → Prop} {U W : World} (h : Sub S U W) (a : Addr) (v : Value) (ha : S a.block) : Sub S U (W.setCell a v) := h.step (by rw [World.size_setCell]; exact Nat.le_refl _) (fun b _ hn => setCell_heap_other W a v (fun e => hn (e ▸ ha))) (fun _ _ h => h)
theorem Sub.other {S S' : Nat → Prop} {U W : World} (h : Sub S U W) (hS : ∀ b, b < W.heap.size → S' b → S b) : Sub S' U W := h.step (Nat.le_refl _) (fun _ _ _ => rfl) hS
theorem Sub.of_gap {S : Nat → Prop} {W : World} {H : Nat} (hS : ∀ b, S b → b < H) : Sub S (gap W 0 H) W := fun b o v hc => by
 obtain ⟨h1, h2⟩ := gap_some hc
 exact ⟨cell_lt h2, fun hb => h1 ⟨Nat.zero_le _, hS b hb⟩, h2⟩
theorem Sub.cells {S : Nat → Prop} {U W : World} (h : Sub S U W) : ∀ b o v, U.cell? ⟨b, o, none⟩ = some v → W.cell? ⟨b, o, none⟩ = some v := fun b o v hc => (h b o v hc).2.2
theorem codeR_cells {U W : World} {B : Nat} {l : List Ins} {v : Value} (h : SlC U B 5 (InsR U B) l v) (hk : ∀ b o u, U.cell? ⟨b, o, none⟩ = some u → W.cell? ⟨b, o, none⟩ = some u) : SlC W B 5 (InsR W B) l v := h.cells hk fun _ _ _ h => h.cells hk
end
section
open Go.RowKit
theorem RepC.news {w : World} {B b : Nat} : ∀ {l : List Dat} {off : Nat}, RepC w B l b off → ∃ xs, CellsD w B l xs ∧ ∀ j u, xs[j]? = some u → w.cell? ⟨b, off + j, none⟩ = some u
  | [], _, _ => ⟨[], rfl, fun j u h => by simp at h⟩
  | x :: l, off, h => by
    rw [RepC] at h
    obtain ⟨⟨c0, c1, c2, c3, c4, h0, h1, h2, h3, h4, hx⟩, hl⟩ := h
    obtain ⟨xs, hc, hr⟩ := RepC.news hl
    refine ⟨c0 :: c1 :: c2 :: c3 :: c4 :: xs, ⟨c0, c1, c2, c3, c4, xs, rfl, hx, hc⟩, fun j u hj => ?_⟩
    match j, hj with
    | 0, hj => obtain rfl : c0 = u := by simpa using hj
               exact h0
    | 1, hj => obtain rfl : c1 = u := by simpa using hj
               exact h1
    | 2, hj => obtain rfl : c2 = u := by simpa using hj
               exact h2
    | 3, hj => obtain rfl : c3 = u := by simpa using hj
               exact h3
    | 4, hj => obtain rfl : c4 = u := by simpa using hj
               exact h4
    | j + 5, hj =>
      have := hr j u (by simpa using hj)
      rwa [show off + 5 + j = off + (j + 5) by omega] at this
theorem data_one {w : World} {B : Nat} : ∀ {l : List Dat} {xs : List Value}, CellsD w B l xs → ∀ u ∈ xs, u.oneCell' = true
 | [], _, h, u, hu => by rw [CellsD] at h; subst h; cases hu
 | .mk k n d s l' :: l, xs, ⟨c0, c1, c2, c3, c4, r, he, hx, hr⟩, u, hu => by
  subst he
  obtain ⟨sl, he, _, _, _, _, o, len, cap, rfl, _⟩ := hx.open
  simp only [Value.agg.injEq, Array.mk.injEq, List.cons.injEq, and_true] at he
  obtain ⟨rfl, rfl, rfl, rfl, rfl⟩ := he
  simp only [List.mem_cons] at hu
  rcases hu with rfl | rfl | rfl | rfl | rfl | hu
  ·rfl
  ·rfl
  ·rfl
  ·rfl
  ·rfl
  ·exact data_one hr u hu
theorem cloneD_any (l : List Dat) (v : Value) (B : Nat) (w : World) (hv : RepS w B l v) (hB : B ≤ w.heap.size) (hm : l.length ≤ 1000000) :
  Calls Tryz.prog 39 #[v] w fun e w' => ∃ v', e = .returned v' ∧ RepS (gap w' B w.heap.size) w'.heap.size l v' ∧ (∃ o len cap, v' = .slice o len cap) ∧ Below w.heap.size w w' := by
 obtain ⟨o, len, cap, rfl, hlen, hcap, hmax, h4⟩ := hv
 have HL := Lib.hid hlen
 have hm' : len ≤ 1000000 := by omega
 cases o with
 | none =>
  obtain ⟨rfl, rfl⟩ := h4
  simp at hlen
  subst hlen
  clear HL
  have he := fun (w : World) => Lib.run_eql_slice_nil (P := Tryz.prog) w 22 60 none 0 0 0 0 Tryz.underlying22
  go_enter Tryz.func39, Tryz.ntmps39
  go_wp2_with fail
  go_ret
  exact ⟨_, rfl, ⟨none, 0, 0, rfl, rfl, by omega, by omega, rfl, rfl⟩, ⟨_, _, _, rfl⟩, Below.refl _ _⟩
 | some a =>
  obtain ⟨xs, hc, hr⟩ := RepC.news h4.2
  have hxl := hc.length
  have hcell : ∀ j u, xs[j]? = some u → w.cell? (a.add j) = some u := fun j u hj => by
   have hne : l ≠ [] := fun h => by
    have h1 := (List.getElem?_eq_some_iff.1 hj).1
    rw [hxl, h] at h1
    simp at h1
   rw [add_none (h4.1 hne).1]
   exact hr j u hj
  have he := fun (w : World) => Lib.run_eql_slice_nil (P := Tryz.prog) w 22 60 (some a) len cap 0 0 Tryz.underlying22
  have HO := Lib.hid (ownsRow_new (W := w) (b := w.heap.size) (base := w.heap.size) rfl (Nat.le_refl _) 60 5 0 [] rfl (by unfold maxLen; omega))
  obtain ⟨i0, hi, hz0, hz1, hz2⟩ := info_parts info_datum
  have HXL := Lib.hid (show xs.length = len * 5 from by rw [hxl, ← hlen])
  have HC := Lib.hid hc
  have HCELL := Lib.hid (show ∀ j u, xs[j]? = some u → (w.alloc (.cells [].toArray 60)).cell? (a.add j) = some u from fun j u hj => by
   have h := hcell j u hj
   have hsp := cell_spot h
   rw [show (a.add j) = ⟨(a.add j).block, (a.add j).off, (a.add j).spot⟩ from rfl, hsp.1] at h ⊢
   exact keepC (Below.one w _) h)
  clear hlen hxl hc hr hcell h4
  go_enter Tryz.func39, Tryz.ntmps39
  go_wp2_with (at_builtin; refine wpList_append_own _ rfl (.tmp 5) (.tmp 6) 22 rfl w.heap.size 60 i0 (.agg #[.int .i64 0, .int .i64 0, .int .i64 0, .string ⟨#[]⟩, .slice none 0 0]) 5 64 Tryz.underlying22 hi hz0 hz1 hz2 rfl (by decide) (.slice (some ⟨w.heap.size, 0, none⟩) 0 0) 0 [] rfl HO.out a len cap xs rfl HXL.out HCELL.out (data_one HC.out) (by unfold maxLen; omega) (by omega) (by simp) ?_)
  intro v' w2 hown hgrow _
  have hown : w2.ownsRow w.heap.size 60 5 v' len xs := by simpa using hown
  have HB := Lib.hid (show Below w.heap.size w w2 from (Below.one w _).grown hgrow (by simp) (fun g hg => by simp [Value.ownBlock] at hg; omega))
  have HR := Lib.hid (show RepS (gap w2 B w.heap.size) w2.heap.size l v' from by
   have h := repS_of_row (w := gap w2 B w.heap.size) (B := B) (base := w.heap.size) (by rw [← HL.out]; exact ownsRow_gap hown (Nat.le_refl _)) (HC.out.mono fun x v h => (h.kept (HB.out.mono hB)).dig (Nat.le_refl _)) (by rw [gap_size]; have := HB.out.size; omega)
   rwa [gap_size] at h)
  obtain ⟨o', l', c', rfl⟩ : ∃ o' l' c', v' = .slice o' l' c' := by
   rcases hown.2 with ⟨h, _⟩ | ⟨g, cap, cur, h, _⟩
   ·exact ⟨_, _, _, h⟩
   ·exact ⟨_, _, _, h⟩
  clear hown hgrow
  go_wp2_with fail
  go_ret
  exact ⟨_, rfl, HR.out, ⟨_, _, _, rfl⟩, HB.out⟩
end
section
open Go
theorem slots_at {ops : Array Oper} {n m i j d e : Nat} {oi oj : Oper} (h : slotsB ops n m = true) (hi : i < n) (hj : j < n) (hoi : ops[i]? = some oi) (hoj : ops[j]? = some oj) (hd : oi.dst = some d) (he : oj.dst = some e) : d < m ∧ (i = j ∨ d ≠ e) := by
 have := List.all_eq_true.1 (List.all_eq_true.1 h i (List.mem_range.2 hi)) j (List.mem_range.2 hj)
 simp only [hoi, hoj, hd, he, Bool.and_eq_true, decide_eq_true_eq, Bool.or_eq_true] at this
 exact this
theorem no_guard {ops : Array Oper} {n m i : Nat} {o : Oper} (h : guardsB .any ops n m [] = true) (hi : i < n) (ho : ops[i]? = some o) : o.guard = none := by
 have := List.all_eq_true.1 h i (List.mem_range.2 hi)
 simp only [ho] at this
 cases hg : o.guard with
 | none => rfl
 | some p =>
  obtain ⟨g, b⟩ := p
  rw [hg] at this
  simp at this
theorem wp_region_phase {P : Program} {id : Nat} {Q : Exit → Act → World → Prop} {a0 : Act} {w : World} {l : List Oper} (n p : Nat) (R : Nat → Value → World → Prop) (Ext Ext' : World → World → Prop) (Pre : World → Prop) (hm : P.follows .mixedOrders = true) (hB : monoB l.toArray n a0.tmps.size = true)
  (htr : ∀ {A B C : World}, Ext A B → Ext B C → Ext A C) (hE : ∀ {A B : World}, Ext' A B → Ext A B) (h0 : Ext w.drew w.drew) (hP0 : Pre w.drew)
  (hR : ∀ i v A B, i < n → i ≠ p → R i v A → Ext A B → R i v B) (hRp : ∀ v A B, R p v A → Ext' A B → R p v B) (hPre : ∀ A B, Pre A → Ext' A B → Pre B)
  (hops : ∀ i o, i < n → l.toArray[i]? = some o → ∀ (a : Act) (w1 : World), a.defers = a0.defers → a.tmps.size = a0.tmps.size → Ext w.drew w1 → (∀ j oj d, j < n → l.toArray[j]? = some oj → (∃ e ∈ o.after, Region.binds .any e = true ∧ e.on = j) → oj.dst = some d → R j (a.tmps.getD d undef) w1) → Rest l.toArray n a0 a → (i = p → Pre w1) →
   wpList P l.toArray (StepPost R (if i = p then Ext else Ext') i o a w1) [o] a w1)
  (hend : ∀ a w1, a.defers = a0.defers → a.tmps.size = a0.tmps.size → Ext w.drew w1 → (∀ i o d, i < n → l.toArray[i]? = some o → o.dst = some d → R i (a.tmps.getD d undef) w1) → Rest l.toArray n a0 a → wpList P l.toArray Q (l.drop n) a w1) :
  (Code.region id l.toArray true).wp P Q a0 w := by
 have hB' := hB
 simp only [monoB, monoG, Bool.and_eq_true, decide_eq_true_eq] at hB'
 obtain ⟨⟨_, _, _, hn, hsl, _⟩, hgd⟩ := hB'
 refine wp_region_inv n (fun listed a W => Ext w.drew W ∧ (listed.getD p false = false → Pre W) ∧ ∀ i o d, i < n → l.toArray[i]? = some o → listed.getD i false = true → o.dst = some d → R i (a.tmps.getD d undef) W) hm hB ⟨h0, fun _ => hP0, fun i o d _ _ h => by rw [getD_replicate_false] at h; cases h⟩ ?_ ?_
 ·intro i o hi ho listed a w1 hls hdf hsz hrest ⟨hex, hpre, hval⟩ hun hdeps
  have hg : Region.wanted o (yielded l.toArray a.tmps) = true := by simp [Region.wanted, no_guard hgd hi ho]
  have hstep := hops i o hi ho a w1 hdf hsz hex (fun j oj d hj hoj ⟨e, he, hb, hon⟩ hd => hval j oj d hj hoj (by have := hdeps e he hb; rwa [hon] at this) hd) hrest (fun e => hpre (by rw [← e]; exact hun))
  unfold wpList
  rw [if_pos hg]
  left
  refine Oper.wp_mono ?_ (wp_of_list (ops := l.toArray) (K := fun a' w' => ∃ v, a' = a.put o.dst v ∧ R i v w' ∧ (if i = p then Ext else Ext') w1 w') hg hstep)
  rintro a' w' ⟨v, rfl, hv, hx⟩
  have hx' : Ext w1 w' := by
   by_cases e : i = p
   ·rwa [if_pos e] at hx
   ·rw [if_neg e] at hx; exact hE hx
  refine ⟨rfl, v, rfl, htr hex hx', fun hl => ?_, fun j oj d hj hoj hl hd => ?_⟩
  ·by_cases e : i = p
   ·subst e
    have hlt : i < listed.size := by rw [hls]; omega
    simp [hlt] at hl
   ·rw [if_neg e] at hx
    refine hPre _ _ (hpre ?_) hx
    rwa [getD_set_ne false (fun h => e h)] at hl
  ·by_cases e : i = j
   ·subst e
    obtain rfl : oj = o := Option.some.inj (hoj.symm.trans ho)
    have hd' := (slots_at hsl hi hi ho ho hd hd).1
    rw [hd, put_getD (by rw [hsz]; exact hd'), if_pos rfl]
    exact hv
   ·rw [getD_set_ne false e] at hl
    have hold := hval j oj d hj hoj hl hd
    have hsame : (a.put o.dst v).tmps.getD d undef = a.tmps.getD d undef := by
     cases hdo : o.dst with
     | none => rfl
     | some d' =>
      obtain ⟨hd', hne⟩ := slots_at hsl hi hj ho hoj hdo hd
      rw [put_getD (by rw [hsz]; exact hd'), if_neg (hne.resolve_left e)]
    rw [hsame]
    by_cases ep : j = p
    ·subst ep
     rw [if_neg e] at hx
     exact hRp _ _ _ hold hx
    ·exact hR j _ _ _ hj ep hold hx'
 ·intro listed a w1 hall hdf hsz hrest ⟨hex, _, hval⟩
  exact hend a w1 hdf hsz hex (fun i o d hi ho hd => hval i o d hi ho (hall i hi) hd) hrest
section
variable {P : Program} {ops : Array Oper} {o : Oper} {a : Act} {w w' : World}
theorem wpList_bs1 {Q : Exit → Act → World → Prop} {t s : Nat} {x v : Value} (hg : o.guard = none) (ho : o.op = .buildSlice t 1 #[(0, .tmp s)]) (hx : a.tmps.getD s undef = x) (hm : (Instr.buildSlice t 1 #[(0, x)]).run P w = .ok v w') (hQ : Q .normal (a.put o.dst v) w') : wpList P ops Q [o] a w := by
 refine wpList_value (v := v) (w' := w') hg ?_ hQ
 have hmap : (#[(0, Operand.tmp s)] : Array (Nat × Operand)).map (fun (i, x) => (i, a.eval x)) = #[(0, x)] := by
  simp only [List.map_toArray, List.map_cons, List.map_nil]
  rw [← hx]; rfl
 unfold execOp
 rw [ho]
 show (do let r ← Instr.buildSlice t 1 ((#[(0, Operand.tmp s)] : Array (Nat × Operand)).map (fun (i, x) => (i, a.eval x))); pure (Next.value r) : Sem Next).run P w = _
 rw [hmap]
 simp only [Sem.run_bind, Sem.run_pure, hm, Result.andThen_ok]
theorem wpList_callF {K : Act → World → Prop} {f : FuncId} {s : Nat} {ts : Array TypeId} {x : Value} {R : Ending → World → Prop} (hg : o.guard = none) (ho : o.op = .call { callee := .value (.func f), args := #[.tmp s], argTypes := ts }) (hx : a.tmps.getD s undef = x) (hf : ∀ args w, (callFunc f args).run P w = .ok (.enter f args) w)
  (hc : Calls P f #[x] w R) (hR : ∀ e w', R e w' → ∃ v, e = .returned v ∧ K (a.put o.dst v) w') : wpList P ops (fun e a' w' => e = .normal ∧ K a' w') [o] a w := by
 refine wpList_plain hg fun K' hK' => ?_
 have hev : a.eval (.tmp s) = x := hx
 have hef : a.eval (.func f) = .func (.func f) #[] #[] := rfl
 have hrun : (execOp a.eval o).run P w = .ok (.enter f #[x]) w := by
  simp [execOp, ho, resolve, Deferred.ofValue, invoke, hev, hef, hf]
 unfold Oper.wp
 rw [hrun]
 simp only [Oper.upon]
 refine hc.mono fun e w' h => ?_
 obtain ⟨v, rfl, hv⟩ := hR e w' h
 exact hK' _ _ ⟨rfl, hv⟩
end
end
section
open Go Go.RowKit
namespace Peep
open Classical in
noncomputable def metOf (code : List Ins) (k : Nat) : Bool := decide (Reach (turned code) k)
theorem metOf_iff (code : List Ins) (k : Nat) : metOf code k = true ↔ Reach (turned code) k := by simp [metOf]
noncomputable def cleanC (code : List Ins) : List Ins := cleaned (metOf code) code
theorem cleaned_eq {met : Nat → Bool} {code : List Ins} (h : ∀ k, met k = true ↔ Reach (turned code) k) : cleaned met code = cleanC code := by
 have e : met = metOf code := funext fun k => by rw [Bool.eq_iff_iff, h k, metOf_iff]
 rw [e]; rfl
noncomputable def cleanP (p : Proc) : Proc := ⟨p.args, p.rest, p.regs, cleanC p.code, []⟩
def clOk (u : Unt) : Bool := u.okB && !(u.procs.any fun p => decide (0 < p.alive.length))
noncomputable def cleanU (u : Unt) : Unt := if clOk u then ⟨u.consts, u.procs.map cleanP⟩ else ⟨[], []⟩
def clErr (u : Unt) : Int := if clOk u then 0 else 5
theorem inside_of_fits {code : List Ins} {regs np nk : Int} (hr : 0 ≤ regs) (hf : ∀ x ∈ code, Unt.fits x regs code.length np nk = true) : Inside code := fun x hx =>
 have h := Live.fits_facts hr (hf x hx)
 ⟨h.2.2.2.1, h.2.2.2.2⟩
theorem proc_ready {u : Unt} (h : u.okB = true) {p : Proc} (hp : p ∈ u.procs) : Closed p.code ∧ Inside p.code := by
 simp only [Unt.okB, Bool.and_eq_true] at h
 obtain ⟨h1, h2, h3⟩ := Live.procsB_at h.2.2.2 hp
 have hh := h1
 simp only [Unt.headB, Bool.not_eq_true', Bool.or_eq_false_iff, decide_eq_false_iff_not] at hh
 exact ⟨Live.closed_of (by omega) (by omega) h2 h3, inside_of_fits (by omega) h3⟩
end Peep
theorem clean_1 (p : Proc) (c0 c1 c2 c3 c4 : Value) (B : Nat) (w w0 : World) (h : ProcR w0 B p [c0, c1, c2, c3, c4]) :
  Calls Tryz.prog 52 #[.agg #[c0, c1, c2, c3, c4]] w fun e w' => e = .returned (.bool (decide (0 < p.alive.length))) ∧ Below w.heap.size w w' := by
 obtain ⟨sl, al, he, _, _, hsl, hal⟩ := h
 obtain ⟨o, n, c, rfl⟩ := hsl.form
 obtain ⟨o2, n2, c2', rfl⟩ := hal.form
 simp only [List.cons.injEq, and_true] at he
 obtain ⟨rfl, rfl, rfl, rfl, rfl⟩ := he
 obtain ⟨q, hq⟩ : ∃ q, decide (0 < p.alive.length) = q := ⟨_, rfl⟩
 have HQ := Lib.hid (show decide (0 < n2) = q from by rw [← hq, hal.lens.1])
 rw [hq]
 clear hsl hal hq
 cases q with
 | false =>
  have h0 : n2 = 0 := by have := HQ.out; simp at this; exact this
  subst h0
  go_enter Tryz.func52, Tryz.ntmps52
  go_wp2_with fail
  go_ret
  exact ⟨rfl, Below.one _ _⟩
 | true =>
  have f0 := HQ.out
  go_enter Tryz.func52, Tryz.ntmps52
  go_wp2_with fail
  go_ret
  exact ⟨rfl, Below.one _ _⟩
theorem Live.okB_procs' {u : Unt} (h : u.okB = true) : u.procs.length ≤ 1000 := by
 simp only [Unt.okB, Bool.and_eq_true, decide_eq_true_eq] at h
 omega
def ProcN (W : World) (S : Nat → Prop) (p : Proc) (cs : List Value) : Prop :=
 ∃ U B sl, Sub S U W ∧ B ≤ W.heap.size ∧ cs = [.int .i64 p.args, .bool p.rest, .int .i64 p.regs, sl, .slice none 0 0] ∧ (-9223372036854775808 ≤ p.args ∧ p.args ≤ 9223372036854775807) ∧ (-9223372036854775808 ≤ p.regs ∧ p.regs ≤ 9223372036854775807) ∧ SlC U B 5 (InsR U B) p.code sl ∧ p.alive = []
theorem ProcN.to {W W' : World} {S S' : Nat → Prop} {p : Proc} {cs : List Value} (h : ProcN W S p cs) (hs : ∀ U, Sub S U W → Sub S' U W') (hz : W.heap.size ≤ W'.heap.size) : ProcN W' S' p cs := by
 obtain ⟨U, B, sl, h1, h2, h3⟩ := h
 exact ⟨U, B, sl, hs U h1, Nat.le_trans h2 hz, h3⟩
theorem ProcN.read {W : World} {S : Nat → Prop} {p : Proc} {cs : List Value} (h : ProcN W S p cs) : ProcR W W.heap.size p cs := by
 obtain ⟨U, B, sl, h1, h2, rfl, h4, h5, h6, h7⟩ := h
 exact ⟨sl, _, rfl, h4, h5, codeR_wider (codeR_cells h6 h1.cells) h2, by rw [h7]; exact ⟨none, 0, 0, rfl, rfl, by omega, by omega, rfl, rfl⟩⟩
theorem info_procC : (Tryz.prog.info? 31).map (fun i => (i.zero, i.size, i.bytes)) = some (some (.agg #[.int .i64 0, .bool false, .int .i64 0, .slice none 0 0, .slice none 0 0]), 5, 72) := by kernel_rfl
def ClV (u : Unt) (H b4 : Nat) (cs ps cv : Value) (w : World) (j : Nat) (wr : World) : Prop :=
 ∃ v xs, Below H w wr ∧ BoxL wr H 25 [cs, ps] ∧ BoxL wr (H + 1) 25 [.slice none 0 0, .slice none 0 0] ∧ BoxL wr b4 25 [cv, v] ∧ (∃ o l c, v = .slice o l c) ∧ wr.ownsRow (H + 2) 31 5 v j xs ∧
  CellsG 5 (ProcN wr (fun b => b = b4 ∨ b = H + 1 ∨ v.ownBlock = some b)) ((u.procs.take j).map Peep.cleanP) xs ∧ ∃ U B, Sub (fun b => b = b4 ∨ b = H + 1 ∨ v.ownBlock = some b) U wr ∧ B ≤ wr.heap.size ∧ RepS U B u.consts cv
theorem procs_snoc {u : Unt} {j : Nat} {p : Proc} (h : u.procs[j]? = some p) : (u.procs.take (j + 1)).map Peep.cleanP = (u.procs.take j).map Peep.cleanP ++ [Peep.cleanP p] := by
 rw [List.take_add_one, h]; simp
theorem RepS.cellsTo {U W : World} {B : Nat} {l : List Dat} {v : Value} (h : RepS U B l v) (hk : ∀ b o u, U.cell? ⟨b, o, none⟩ = some u → W.cell? ⟨b, o, none⟩ = some u) (hB : B ≤ W.heap.size) : RepS W W.heap.size l v := (RepS.mono hk h).wider hB
def CleanV (S : Nat → Prop) (code : List Ins) (sv : Value) (W : World) : Prop := (∃ o l c, sv = .slice o l c) ∧ ∃ U B, Sub S U W ∧ B ≤ W.heap.size ∧ SlC U B 5 (InsR U B) code sv
theorem CleanV.to {S S' : Nat → Prop} {code : List Ins} {sv : Value} {W W' : World} (h : CleanV S code sv W) (hs : ∀ U, Sub S U W → Sub S' U W') (hz : W.heap.size ≤ W'.heap.size) : CleanV S' code sv W' := by
 obtain ⟨hf, U, B, h1, h2, h3⟩ := h
 exact ⟨hf, U, B, hs U h1, Nat.le_trans h2 hz, h3⟩
theorem clV_step {u : Unt} {H b4 j g c : Nat} {cs ps cv v sl : Value} {w wr W6 w7 : World} {p : Proc} {xs : List Value} (hb : Below H w wr) (hbu : BoxL wr H 25 [cs, ps]) (hbr : BoxL wr (H + 1) 25 [.slice none 0 0, .slice none 0 0]) (hbx : BoxL wr b4 25 [cv, v])
  (hown : wr.ownsRow (H + 2) 31 5 v j xs) (hcs : CellsG 5 (ProcN wr (fun b => b = b4 ∨ b = H + 1 ∨ v.ownBlock = some b)) ((u.procs.take j).map Peep.cleanP) xs) (hcons : ∃ U B, Sub (fun b => b = b4 ∨ b = H + 1 ∨ v.ownBlock = some b) U wr ∧ B ≤ wr.heap.size ∧ RepS U B u.consts cv) (hH4 : H + 1 < b4)
  (hpj : u.procs[j]? = some p) (h6 : Below wr.heap.size wr W6) (hgr : W6.grownBy w7 v.ownBlock) (hsl : CleanV (fun b => b < W6.heap.size ∨ b = g) (Peep.cleanC p.code) sl w7)
  (hargs : -9223372036854775808 ≤ p.args ∧ p.args ≤ 9223372036854775807) (hregs : -9223372036854775808 ≤ p.regs ∧ p.regs ≤ 9223372036854775807)
  (hown7 : w7.ownsRow (H + 2) 31 5 (.slice (some ⟨g, 0, none⟩) (j + 1) c) (j + 1) (xs ++ [.int .i64 p.args, .bool p.rest, .int .i64 p.regs, sl, .slice none 0 0])) (hgo : v.ownBlock = some g ∨ W6.heap.size ≤ g) :
  BoxL w7 b4 25 [cv, v] ∧ ClV u H b4 cs ps cv w (j + 1) (w7.setCell ⟨b4, 1, none⟩ (.slice (some ⟨g, 0, none⟩) (j + 1) c)) := by
 have hlt := hown.lt
 have hz6 := h6.size
 have hz7 := hgr.size
 have hHr := hbr.lt
 have hb4l := hbx.lt
 have boxes : ∀ {b : Nat} {cs : List Value}, BoxL wr b 25 cs → BoxL w7 b 25 cs := fun {b cs} h => by
  refine (hgr.block b (by have := h.lt; omega) (fun e => ?_)).trans (h.keep h6)
  obtain ⟨cs', f, hc⟩ := own_row hown b e.symm
  rw [show wr.heap[b]? = _ from h] at hc
  simp at hc
 have hsub : ∀ U, Sub (fun b => b = b4 ∨ b = H + 1 ∨ v.ownBlock = some b) U wr → Sub (fun b => b = b4 ∨ b = H + 1 ∨ (Value.slice (some ⟨g, 0, none⟩) (j + 1) c).ownBlock = some b) U (w7.setCell ⟨b4, 1, none⟩ (.slice (some ⟨g, 0, none⟩) (j + 1) c)) := fun U hU => by
  refine ((hU.below h6).step hz7 (fun b hl hn => hgr.block b hl (fun e => hn (.inr (.inr e.symm)))) (fun b hl hS => ?_)).set ⟨b4, 1, none⟩ _ (.inl rfl)
  rcases hS with h | h | h
  ·exact .inl h
  ·exact .inr (.inl h)
  ·simp only [Value.ownBlock, Option.some.injEq] at h
   subst h
   rcases hgo with h | h
   ·exact .inr (.inr h)
   ·omega
 refine ⟨boxes hbx, .slice (some ⟨g, 0, none⟩) (j + 1) c, xs ++ [.int .i64 p.args, .bool p.rest, .int .i64 p.regs, sl, .slice none 0 0], ?_, ?_, ?_, (boxes hbx).set 1 _, ⟨_, _, _, rfl⟩, ?_, ?_, ?_⟩
 ·refine Below.setCell (p := ⟨b4, 1, none⟩) ?_ (by dsimp only; omega) _
  refine (hb.trans (h6.mono (by omega))).grown hgr (by omega) (fun k e => ?_)
  have := (hlt k e).1
  omega
 ·exact (boxes hbu).other _ _ (by dsimp only; omega)
 ·exact (boxes hbr).other _ _ (by dsimp only; omega)
 ·refine ownsRow_set hown7 _ _ (fun r hr e => ?_)
  obtain ⟨cs', f, hc⟩ := own_row hown7 r hr
  have e : r = b4 := e
  rw [e, show w7.heap[b4]? = _ from boxes hbx] at hc
  simp at hc
 ·rw [procs_snoc hpj]
  refine CellsG.snoc (size := 5) rfl ?_ (hcs.mono fun x _ cs h => h.to hsub (by rw [World.size_setCell]; omega))
  obtain ⟨_, U, B, h1, h2, h3⟩ := hsl
  refine ⟨U, B, sl, (h1.other (fun b _ hS => ?_)).set ⟨b4, 1, none⟩ _ (.inl rfl), by rw [World.size_setCell]; omega, rfl, hargs, hregs, h3, rfl⟩
  rcases hS with h | h | h
  ·exact .inl (by omega)
  ·exact .inl (by omega)
  ·simp only [Value.ownBlock, Option.some.injEq] at h
   exact .inr h.symm
 ·obtain ⟨U, B, h1, h2, h3⟩ := hcons
  exact ⟨U, B, hsub U h1, by rw [World.size_setCell]; omega, h3⟩
theorem bs_proc (w : World) (x z : Int) (y : Bool) (o : Option Addr) (l c : Nat) : (Instr.buildSlice 23 1 #[(0, .agg #[.int .i64 x, .bool y, .int .i64 z, .slice o l c, .slice none 0 0])]).run Tryz.prog w = .ok (.slice (some ⟨w.heap.size, 0, none⟩) 1 1) (w.alloc (.cells #[.int .i64 x, .bool y, .int .i64 z, .slice o l c, .slice none 0 0] 31)) := by go_simp
def ClR (H H6 b4 pb j : Nat) (own : Value) (args regs : Int) (rest : Bool) (cval : Value) (code : List Ins) (xs : List Value) (i : Nat) (v : Value) (W : World) : Prop := match i with
 | 0 => v = .pointer (some ⟨b4, 1, none⟩)
 | 1 => v = own
 | 2 => v = .pointer (some ⟨pb, 0, none⟩)
 | 3 => v = .int .i64 args
 | 4 => v = .pointer (some ⟨pb, 1, none⟩)
 | 5 => v = .bool rest
 | 6 => v = .pointer (some ⟨pb, 2, none⟩)
 | 7 => v = .int .i64 regs
 | 8 => v = .pointer (some ⟨pb, 3, none⟩)
 | 9 => v = cval
 | 10 => CleanV (fun b => b < H6) code v W
 | 11 => ∃ sv, v = .agg #[.int .i64 args, .bool rest, .int .i64 regs, sv, .slice none 0 0] ∧ CleanV (fun b => b < H6) code sv W
 | 12 => ∃ b sv, v = .slice (some ⟨b, 0, none⟩) 1 1 ∧ H6 ≤ b ∧ BoxL W b 31 [.int .i64 args, .bool rest, .int .i64 regs, sv, .slice none 0 0] ∧ CleanV (fun b => b < H6) code sv W
 | 13 => ∃ g c sv, v = .slice (some ⟨g, 0, none⟩) (j + 1) c ∧ W.ownsRow (H + 2) 31 5 v (j + 1) (xs ++ [.int .i64 args, .bool rest, .int .i64 regs, sv, .slice none 0 0]) ∧ CleanV (fun b => b < H6 ∨ b = g) code sv W ∧ (own.ownBlock = some g ∨ H6 ≤ g)
 | _ => v = .pointer (some ⟨b4, 1, none⟩)
theorem clR_kept (H H6 b4 pb j : Nat) (own : Value) (args regs : Int) (rest : Bool) (cval : Value) (code : List Ins) (xs : List Value) (hown : ∀ r, own.ownBlock = some r → r < H6) : ∀ i v A B, i < 15 → i ≠ 13 → ClR H H6 b4 pb j own args regs rest cval code xs i v A → A.grownBy B own.ownBlock → ClR H H6 b4 pb j own args regs rest cval code xs i v B := by
 intro i v A B hi hne h hg
 have hs : ∀ U, Sub (fun b => b < H6) U A → Sub (fun b => b < H6) U B := fun U hU => hU.grown hg hown
 match i, hi, hne, h with
 | 0, _, _, h => exact h
 | 1, _, _, h => exact h
 | 2, _, _, h => exact h
 | 3, _, _, h => exact h
 | 4, _, _, h => exact h
 | 5, _, _, h => exact h
 | 6, _, _, h => exact h
 | 7, _, _, h => exact h
 | 8, _, _, h => exact h
 | 9, _, _, h => exact h
 | 10, _, _, h => exact CleanV.to h hs hg.size
 | 11, _, _, ⟨sv, h1, h2⟩ => exact ⟨sv, h1, h2.to hs hg.size⟩
 | 12, _, _, ⟨b, sv, h1, h2, h3, h4⟩ => exact ⟨b, sv, h1, h2, (hg.block b h3.lt (fun e => by have := hown b e.symm; omega)).trans h3, h4.to hs hg.size⟩
 | 13, _, hne, _ => exact absurd rfl hne
 | 14, _, _, h => exact h
theorem lt15 {P : Nat → Prop} (h0 : P 0) (h1 : P 1) (h2 : P 2) (h3 : P 3) (h4 : P 4) (h5 : P 5) (h6 : P 6) (h7 : P 7) (h8 : P 8) (h9 : P 9) (h10 : P 10) (h11 : P 11) (h12 : P 12) (h13 : P 13) (h14 : P 14) : ∀ i, i < 15 → P i
 | 0, _ => h0 | 1, _ => h1 | 2, _ => h2 | 3, _ => h3 | 4, _ => h4 | 5, _ => h5 | 6, _ => h6 | 7, _ => h7 | 8, _ => h8 | 9, _ => h9 | 10, _ => h10 | 11, _ => h11 | 12, _ => h12 | 13, _ => h13 | 14, _ => h14
theorem grown_refl (W : World) (row : Option Nat) : W.grownBy W row := ⟨rfl, rfl, rfl, Nat.le_refl _, fun _ _ _ => rfl⟩
theorem grown_drew {A B : World} {row : Option Nat} (h : A.drew.grownBy B row) : A.grownBy B row := ⟨h.os, h.tape, h.output, h.size, h.block⟩
theorem grown_below {A B : World} (h : Below A.heap.size A B) (row : Option Nat) : A.grownBy B row := ⟨h.os, h.tape, h.output, h.size, fun k hk _ => h.block k hk⟩
theorem cleanU_any (u : Unt) (v : Value) (B : Nat) (w : World) (hv : UntR w B u v) (hB : B ≤ w.heap.size) (hs : Live.Short u) (hk : u.consts.length ≤ 1000000) :
  Calls Tryz.prog 27 #[v] w fun e w' => ∃ cv pv, e = .returned (.tuple #[.agg #[cv, pv], .int .i64 (Peep.clErr u)]) ∧ UntR w' w'.heap.size (Peep.cleanU u) (.agg #[cv, pv]) ∧ Below w.heap.size w w' := by
 have HV := Lib.hid hv
 obtain ⟨cv, pv, rfl, hc, hp⟩ := hv
 obtain ⟨op, np, cp, rfl, hnp, hcapp, hmaxp⟩ := hp.slice
 have HCONS := Lib.hid hc
 obtain ⟨ok, nk, ck, rfl, hcx⟩ := hc
 clear hcx
 have HC := Lib.hid (fun X Y => fcheck_any u _ B ((w.alloc X).alloc Y) (HV.out.kept (((Below.one w X).trans ((Below.one _ Y).mono (by simp))).mono hB)) (by simp; omega))
 have HP := Lib.hid hp
 have HNP := Lib.hid hnp
 obtain ⟨E, hE⟩ : ∃ E, u.err = E := ⟨_, rfl⟩
 rw [hE] at HC
 have HS := Lib.hid hs
 clear hp hnp hs
 have HEMP : ∀ W : World, UntR W W.heap.size ⟨[], []⟩ (.agg #[.slice none 0 0, .slice none 0 0]) := fun W => ⟨_, _, rfl, ⟨none, 0, 0, rfl, rfl, by omega, by omega, rfl, rfl⟩, ⟨none, 0, 0, rfl, rfl, by omega, by omega, rfl, rfl⟩⟩
 have HEM := Lib.hid HEMP
 clear HEMP
 cases hq : u.okB with
 | false =>
  rw [Unt.err, hq] at hE
  obtain rfl : (5 : Int) = E := hE
  have HF := Lib.hid (show Peep.clErr u = 5 ∧ Peep.cleanU u = ⟨[], []⟩ from by simp [Peep.clErr, Peep.cleanU, Peep.clOk, hq])
  rw [HF.out.1, HF.out.2]
  clear hq HF
  go_enter Tryz.func27, Tryz.ntmps27
  go_wp2_with fail
  refine (HC.out _ _).mono ?_
  rintro e w1 ⟨rfl, hb1⟩
  obtain ⟨bu, br, hb⟩ := two_boxes hb1
  have r0 := br.cell 0 rfl
  have r1 := br.cell 1 rfl
  have z0 := br.free 0
  have z1 := br.free 1
  have hlr := br.lt
  have HBF := Lib.hid ((hb.setCell (p := ⟨w.heap.size + 1, 0, none⟩) (by dsimp only; omega) (.slice none 0 0)).setCell (p := ⟨w.heap.size + 1, 1, none⟩) (by dsimp only; omega) (.slice none 0 0))
  have bN := (br.set 0 (.slice none 0 0)).set 1 (.slice none 0 0)
  have q0 := bN.cell 0 rfl
  have q1 := bN.cell 1 rfl
  clear hb1 bu br hb HC bN
  go_wp2_with fail
  exact bodyPost_ret (v := .tuple #[.agg #[.slice none 0 0, .slice none 0 0], .int .i64 5]) (by simp [results, Tryz.results27, go_sem, q0, q1]) rfl ⟨_, _, rfl, HEM.out _, HBF.out⟩
 | true =>
  rw [Unt.err, hq] at hE
  obtain rfl : (0 : Int) = E := hE
  obtain ⟨q, hal⟩ : ∃ q, (u.procs.any fun p => decide (0 < p.alive.length)) = q := ⟨_, rfl⟩
  have HCF := Lib.hid (fun (V : World) (hV : Below w.heap.size w V) => containsG_proc (ProcR w B) 52 #[] (fun p => decide (0 < p.alive.length)) q u.procs (.slice op np cp) B V (HP.out.kept (hV.mono hB) fun _ _ _ h => h) (by have := hV.size; omega) (fun _ _ => rfl) (fun p _ c0 c1 c2 c3 c4 w' h _ => clean_1 p c0 c1 c2 c3 c4 B w' w h) hal)
  have HOK := Lib.hid hq
  have HAL := Lib.hid hal
  clear hq hal
  go_enter Tryz.func27, Tryz.ntmps27
  go_wp2_with fail
  refine (HC.out _ _).mono ?_
  rintro e w1 ⟨rfl, hb1⟩
  obtain ⟨bu, br, hb⟩ := two_boxes hb1
  have HBU := Lib.hid bu
  have HBR := Lib.hid br
  have HB1 := Lib.hid hb
  have u1 := bu.cell 1 rfl
  have hul := bu.lt
  clear hb1 bu br hb HC
  go_wp2_with fail
  refine (HCF.out _ HB1.out).mono ?_
  rintro e w2 ⟨rfl, hb2⟩
  have HBU2 := Lib.hid (HBU.out.keep hb2)
  have HBR2 := Lib.hid (HBR.out.keep hb2)
  have HB2 := Lib.hid (Below.next HB1.out hb2)
  clear hb2 HCF u1 hul HBU HBR
  cases q with
  | true =>
   have HF := Lib.hid (show Peep.clErr u = 5 ∧ Peep.cleanU u = ⟨[], []⟩ from by simp [Peep.clErr, Peep.cleanU, Peep.clOk, HOK.out, HAL.out])
   have r0 := HBR2.out.cell 0 rfl
   have r1 := HBR2.out.cell 1 rfl
   have z0 := HBR2.out.free 0
   have z1 := HBR2.out.free 1
   have hlr := HBR2.out.lt
   have HBF := Lib.hid ((HB2.out.setCell (p := ⟨w.heap.size + 1, 0, none⟩) (by dsimp only; omega) (.slice none 0 0)).setCell (p := ⟨w.heap.size + 1, 1, none⟩) (by dsimp only; omega) (.slice none 0 0))
   have bN := (HBR2.out.set 0 (.slice none 0 0)).set 1 (.slice none 0 0)
   have q0 := bN.cell 0 rfl
   have q1 := bN.cell 1 rfl
   clear bN
   go_wp2_with fail
   refine bodyPost_ret (v := .tuple #[.agg #[.slice none 0 0, .slice none 0 0], .int .i64 5]) (by simp [results, Tryz.results27, go_sem, q0, q1]) rfl ⟨.slice none 0 0, .slice none 0 0, by rw [HF.out.1], ?_, HBF.out⟩
   rw [HF.out.2]
   exact HEM.out _
  | false =>
   have HF := Lib.hid (show Peep.clErr u = 0 ∧ Peep.cleanU u = ⟨u.consts, u.procs.map Peep.cleanP⟩ from by simp [Peep.clErr, Peep.cleanU, Peep.clOk, HOK.out, HAL.out])
   have u0 := HBU2.out.cell 0 rfl
   have u1 := HBU2.out.cell 1 rfl
   have hul := HBU2.out.lt
   have hs2 := HB2.out.size
   have HCL := Lib.hid (cloneD_any u.consts (.slice ok nk ck) B w2 (HCONS.out.kept (HB2.out.mono hB)) (by omega) hk)
   go_wp2_with fail
   refine HCL.out.mono ?_
   rintro e w4 ⟨v4, rfl, hrep, ⟨o5, l5, c5, rfl⟩, hb4⟩
   have HRP := Lib.hid hrep
   have HB4 := Lib.hid (Below.next HB2.out hb4)
   have HBU4 := Lib.hid (HBU2.out.keep hb4)
   have HBR4 := Lib.hid (HBR2.out.keep hb4)
   have hl24 := hb4.size
   have hlr2 := HBR2.out.lt
   clear hrep hb4 u0 u1 hul HCL
   have BX := Lib.hid (BoxL.new (W := w4) rfl 25 [.slice o5 l5 c5, .slice none 0 0])
   go_upto_region 4 with fail
   obtain ⟨W5, hW5⟩ : ∃ W5, w4.alloc (.cells #[.slice o5 l5 c5, .slice none 0 0] 25) = W5 := ⟨_, rfl⟩
   have HW45 := Lib.hid (show Below w4.heap.size w4 W5 from by rw [← hW5]; exact Below.one w4 _)
   have HI0 := Lib.hid (show ClV u w.heap.size w4.heap.size (.slice ok nk ck) (.slice op np cp) (.slice o5 l5 c5) w 0 W5 from by
    refine ⟨.slice none 0 0, [], Below.next HB4.out HW45.out, HBU4.out.keep HW45.out, HBR4.out.keep HW45.out, by rw [← hW5]; exact BX.out, ⟨_, _, _, rfl⟩, World.ownsRow_nil _ _ _ _, rfl, gap w4 B w2.heap.size, w4.heap.size, ?_, HW45.out.size, HRP.out⟩
    intro c o v hcv
    obtain ⟨g1, g2⟩ := gap_some hcv
    have hlt := cell_lt g2
    refine ⟨Nat.lt_of_lt_of_le hlt HW45.out.size, ?_, keepC HW45.out g2⟩
    rintro (h | h | h)
    ·omega
    ·exact g1 ⟨by omega, by omega⟩
    ·cases h)
   have hu1 := (HBU4.out.keep HW45.out).cell 1 rfl
   have hul := (HBU4.out.keep HW45.out).lt
   have hb4l : w.heap.size + 1 < w4.heap.size := HBR4.out.lt
   rw [hW5]
   clear hW5 BX HB4 HBU4 HBR4 HRP HBU2 HBR2 HB2 HW45
   go_wp2_with fail
   go_loopg [23] np (fun G i wr => ∃ j : Nat, G = np - j ∧ j ≤ np ∧ i = .int .i64 j ∧ Hid (ClV u w.heap.size w4.heap.size (.slice ok nk ck) (.slice op np cp) (.slice o5 l5 c5) w j wr))
   case atStart => exact ⟨0, rfl, by omega, rfl, HI0⟩
   case round =>
    obtain ⟨j, rfl, hj, rfl, HI⟩ := hrel
    clear HI0 hu1 hul
    obtain ⟨v, xs, hb, hbu, hbr, hbx, ⟨ov, lv, cv2, rfl⟩, hown, hcs, U, B', hsub, hB', hrs⟩ := HI.out
    by_cases hjl : j < np
    ·obtain ⟨p, hpj⟩ : ∃ p, u.procs[j]? = some p := ⟨_, List.getElem?_eq_getElem (by rw [← HNP.out]; exact hjl)⟩
     obtain ⟨b1, off1, cs, ho1, hbB, hcl, hcell, hpr⟩ := HP.out.at (hb.mono hB) hpj
     subst ho1
     match cs, hcl with
     | [d0, d1, d2, d3, d4], _ =>
      have e0 := hcell 0 _ rfl
      have e1 := hcell 1 _ rfl
      have e2 := hcell 2 _ rfl
      have e3 := hcell 3 _ rfl
      have e4 := hcell 4 _ rfl
      rw [Nat.add_zero] at e0
      have hmem := List.mem_of_getElem? hpj
      have HRD := Lib.hid (Peep.proc_ready HOK.out hmem)
      have HSP := Lib.hid (HS.out p hmem)
      have HPJ := Lib.hid hpj
      have hbl := cell_lt e0
      obtain ⟨args, rest, regs, code, alive⟩ := p
      obtain ⟨sl, al, he, hbargs, hbregs, hsl, hal⟩ := hpr
      obtain ⟨oc, m, cc, rfl⟩ := hsl.form
      obtain ⟨oal, lal, cal, rfl⟩ := hal.form
      simp only [List.cons.injEq, and_true] at he
      obtain ⟨rfl, rfl, rfl, rfl, rfl⟩ := he
      dsimp only at hsl hbargs hbregs
      have HBA := Lib.hid hbargs
      have HBG := Lib.hid hbregs
      have HCO := Lib.hid hsl
      have HB := Lib.hid hb
      have HBU := Lib.hid hbu
      have HBR := Lib.hid hbr
      have HBX := Lib.hid hbx
      have HOW := Lib.hid hown
      have HCS := Lib.hid hcs
      have HSUB := Lib.hid hsub
      have HRS := Lib.hid hrs
      have hszr := hb.size
      clear hpj hcell hcl hsl hal hbargs hbregs hb hbu hbr hbx hown hcs hsub hrs hmem
      go_upto_region 7 with fail
      have BX6 := Lib.hid (BoxL.new (W := wr) rfl 31 [.int .i64 args, .bool rest, .int .i64 regs, .slice oc m cc, .slice oal lal cal])
      obtain ⟨W6, hW6⟩ : ∃ W6, wr.alloc (.cells #[.int .i64 args, .bool rest, .int .i64 regs, .slice oc m cc, .slice oal lal cal] 31) = W6 := ⟨_, rfl⟩
      have HX6 := Lib.hid (show BoxL W6 wr.heap.size 31 [.int .i64 args, .bool rest, .int .i64 regs, .slice oc m cc, .slice oal lal cal] from by rw [← hW6]; exact BX6.out)
      have HW6 := Lib.hid (show Below wr.heap.size wr W6 from by rw [← hW6]; exact Below.one wr _)
      rw [hW6]
      clear hW6 BX6 e0 e1 e2 e3 e4
      have x0 := HX6.out.cell 0 rfl
      have x1 := HX6.out.cell 1 rfl
      have x2 := HX6.out.cell 2 rfl
      have x3 := HX6.out.cell 3 rfl
      have hlx := HX6.out.lt
      have y1 := (HBX.out.keep HW6.out).cell 1 rfl
      have hly := (HBX.out.keep HW6.out).lt
      have hs6 := HW6.out.size
      have HOW6 := Lib.hid (show World.ownsRow W6 (w.heap.size + 2) 31 5 (.slice ov lv cv2) j xs from ownsRow_keep HOW.out HW6.out)
      have HBW := Lib.hid (show Below B w W6 from (Below.next HB.out HW6.out).mono hB)
      have HCN := Lib.hid (fun (V : World) (hV : Hid (W6.grownBy V (Value.slice ov lv cv2).ownBlock)) => clean_any reached_any code oc m cc B V (codeR_kept HCO.out (HBW.out.grown hV.out (by omega) (fun k e => by have := (HOW6.out.lt k e).1; omega))) (by have := hV.out.size; omega) HRD.out.1 HRD.out.2 (by have := HSP.out.1; dsimp only at this; omega) (fun x hx => by have := HSP.out.2 x hx; omega))
      have hj1 : j ≤ 1000 := by
       have := Live.okB_procs' HOK.out
       have h2 := HNP.out
       omega
      have HOL := Lib.hid (show ∀ r, (Value.slice ov lv cv2).ownBlock = some r → r < W6.heap.size from fun r hr => by have := (HOW6.out.lt r hr).2; exact this)
      have HNB := Lib.hid (show ∀ r, (Value.slice ov lv cv2).ownBlock = some r → r ≠ w4.heap.size ∧ r ≠ wr.heap.size from fun r hr => ⟨fun e => by
       obtain ⟨cs', f, hc⟩ := own_row HOW.out r hr
       subst e
       rw [show wr.heap[w4.heap.size]? = _ from HBX.out] at hc
       simp at hc, fun e => by have := (HOW.out.lt r hr).2; omega⟩)
      refine wp_region_phase 15 13 (ClR w.heap.size W6.heap.size w4.heap.size wr.heap.size j (.slice ov lv cv2) args regs rest (.slice oc m cc) (Peep.cleanC code) xs) (fun A B => A.grownBy B (Value.slice ov lv cv2).ownBlock) (fun A B => Below A.heap.size A B) (fun W => W.ownsRow (w.heap.size + 2) 31 5 (.slice ov lv cv2) j xs) (by kernel_rfl) (by show monoB _ 15 44 = true; kernel_rfl) (fun h k => grown_trans h k) (fun h => grown_below h _) (grown_refl _ _) (show World.ownsRow W6.drew _ _ _ _ _ _ from HOW6.out) (clR_kept _ _ _ _ _ _ _ _ _ _ _ _ HOL.out) (fun v A B ⟨g, c, sv, h1, h2, h3, h4⟩ hb => ⟨g, c, sv, h1, ownsRow_keep h2 hb, h3.to (fun U hU => hU.below hb) hb.size, h4⟩) (fun A B h hb => ownsRow_keep h hb) ?hops ?hend
      case hops => as_aux_lemma =>
       intro i o hi
       revert o
       revert i
       refine lt15 ?_ ?_ ?_ ?_ ?_ ?_ ?_ ?_ ?_ ?_ ?_ ?_ ?_ ?_ ?_
       ·intro o ho a w1 hdf hsz hex hdep hrest hpre
        obtain rfl : _ = o := Option.some.inj ho
        have hx : a.tmps.getD 4 undef = .pointer (some ⟨w4.heap.size, 0, none⟩) := hrest.at 4 (by kernel_rfl)
        exact wpList_field (v := .pointer (some ⟨w4.heap.size, 1, none⟩)) rfl rfl hx (by go_simp) ⟨rfl, _, rfl, rfl, Below.refl _ _⟩
       ·intro o ho a w1 hdf hsz hex hdep hrest hpre
        obtain rfl : _ = o := Option.some.inj ho
        have hWx : W6.grownBy w1 (Value.slice ov lv cv2).ownBlock := grown_drew hex
        have hX6 : BoxL w1 wr.heap.size 31 [.int .i64 args, .bool rest, .int .i64 regs, .slice oc m cc, .slice oal lal cal] := (hWx.block _ hlx (fun e => (HNB.out _ e.symm).2 rfl)).trans HX6.out
        have hX4 : BoxL w1 w4.heap.size 25 [.slice o5 l5 c5, .slice ov lv cv2] := (hWx.block _ hly (fun e => (HNB.out _ e.symm).1 rfl)).trans (HBX.out.keep HW6.out)
        have hx : a.tmps.getD 27 undef = .pointer (some ⟨w4.heap.size, 1, none⟩) := dep_at hdep 0 27 (by kernel_rfl)
        have c0 := hX4.cell 1 rfl
        exact wpList_load (v := .slice ov lv cv2) rfl rfl hx (by go_simp) ⟨rfl, _, rfl, rfl, Below.refl _ _⟩
       ·intro o ho a w1 hdf hsz hex hdep hrest hpre
        obtain rfl : _ = o := Option.some.inj ho
        have hx : a.tmps.getD 6 undef = .pointer (some ⟨wr.heap.size, 0, none⟩) := hrest.at 6 (by kernel_rfl)
        exact wpList_field (v := .pointer (some ⟨wr.heap.size, 0, none⟩)) rfl rfl hx (by go_simp) ⟨rfl, _, rfl, rfl, Below.refl _ _⟩
       ·intro o ho a w1 hdf hsz hex hdep hrest hpre
        obtain rfl : _ = o := Option.some.inj ho
        have hWx : W6.grownBy w1 (Value.slice ov lv cv2).ownBlock := grown_drew hex
        have hX6 : BoxL w1 wr.heap.size 31 [.int .i64 args, .bool rest, .int .i64 regs, .slice oc m cc, .slice oal lal cal] := (hWx.block _ hlx (fun e => (HNB.out _ e.symm).2 rfl)).trans HX6.out
        have hX4 : BoxL w1 w4.heap.size 25 [.slice o5 l5 c5, .slice ov lv cv2] := (hWx.block _ hly (fun e => (HNB.out _ e.symm).1 rfl)).trans (HBX.out.keep HW6.out)
        have hx : a.tmps.getD 29 undef = .pointer (some ⟨wr.heap.size, 0, none⟩) := dep_at hdep 2 29 (by kernel_rfl)
        have c0 := hX6.cell 0 rfl
        exact wpList_load (v := .int .i64 args) rfl rfl hx (by go_simp) ⟨rfl, _, rfl, rfl, Below.refl _ _⟩
       ·intro o ho a w1 hdf hsz hex hdep hrest hpre
        obtain rfl : _ = o := Option.some.inj ho
        have hx : a.tmps.getD 6 undef = .pointer (some ⟨wr.heap.size, 0, none⟩) := hrest.at 6 (by kernel_rfl)
        exact wpList_field (v := .pointer (some ⟨wr.heap.size, 1, none⟩)) rfl rfl hx (by go_simp) ⟨rfl, _, rfl, rfl, Below.refl _ _⟩
       ·intro o ho a w1 hdf hsz hex hdep hrest hpre
        obtain rfl : _ = o := Option.some.inj ho
        have hWx : W6.grownBy w1 (Value.slice ov lv cv2).ownBlock := grown_drew hex
        have hX6 : BoxL w1 wr.heap.size 31 [.int .i64 args, .bool rest, .int .i64 regs, .slice oc m cc, .slice oal lal cal] := (hWx.block _ hlx (fun e => (HNB.out _ e.symm).2 rfl)).trans HX6.out
        have hX4 : BoxL w1 w4.heap.size 25 [.slice o5 l5 c5, .slice ov lv cv2] := (hWx.block _ hly (fun e => (HNB.out _ e.symm).1 rfl)).trans (HBX.out.keep HW6.out)
        have hx : a.tmps.getD 31 undef = .pointer (some ⟨wr.heap.size, 1, none⟩) := dep_at hdep 4 31 (by kernel_rfl)
        have c0 := hX6.cell 1 rfl
        exact wpList_load (v := .bool rest) rfl rfl hx (by go_simp) ⟨rfl, _, rfl, rfl, Below.refl _ _⟩
       ·intro o ho a w1 hdf hsz hex hdep hrest hpre
        obtain rfl : _ = o := Option.some.inj ho
        have hx : a.tmps.getD 6 undef = .pointer (some ⟨wr.heap.size, 0, none⟩) := hrest.at 6 (by kernel_rfl)
        exact wpList_field (v := .pointer (some ⟨wr.heap.size, 2, none⟩)) rfl rfl hx (by go_simp) ⟨rfl, _, rfl, rfl, Below.refl _ _⟩
       ·intro o ho a w1 hdf hsz hex hdep hrest hpre
        obtain rfl : _ = o := Option.some.inj ho
        have hWx : W6.grownBy w1 (Value.slice ov lv cv2).ownBlock := grown_drew hex
        have hX6 : BoxL w1 wr.heap.size 31 [.int .i64 args, .bool rest, .int .i64 regs, .slice oc m cc, .slice oal lal cal] := (hWx.block _ hlx (fun e => (HNB.out _ e.symm).2 rfl)).trans HX6.out
        have hX4 : BoxL w1 w4.heap.size 25 [.slice o5 l5 c5, .slice ov lv cv2] := (hWx.block _ hly (fun e => (HNB.out _ e.symm).1 rfl)).trans (HBX.out.keep HW6.out)
        have hx : a.tmps.getD 33 undef = .pointer (some ⟨wr.heap.size, 2, none⟩) := dep_at hdep 6 33 (by kernel_rfl)
        have c0 := hX6.cell 2 rfl
        exact wpList_load (v := .int .i64 regs) rfl rfl hx (by go_simp) ⟨rfl, _, rfl, rfl, Below.refl _ _⟩
       ·intro o ho a w1 hdf hsz hex hdep hrest hpre
        obtain rfl : _ = o := Option.some.inj ho
        have hx : a.tmps.getD 6 undef = .pointer (some ⟨wr.heap.size, 0, none⟩) := hrest.at 6 (by kernel_rfl)
        exact wpList_field (v := .pointer (some ⟨wr.heap.size, 3, none⟩)) rfl rfl hx (by go_simp) ⟨rfl, _, rfl, rfl, Below.refl _ _⟩
       ·intro o ho a w1 hdf hsz hex hdep hrest hpre
        obtain rfl : _ = o := Option.some.inj ho
        have hWx : W6.grownBy w1 (Value.slice ov lv cv2).ownBlock := grown_drew hex
        have hX6 : BoxL w1 wr.heap.size 31 [.int .i64 args, .bool rest, .int .i64 regs, .slice oc m cc, .slice oal lal cal] := (hWx.block _ hlx (fun e => (HNB.out _ e.symm).2 rfl)).trans HX6.out
        have hX4 : BoxL w1 w4.heap.size 25 [.slice o5 l5 c5, .slice ov lv cv2] := (hWx.block _ hly (fun e => (HNB.out _ e.symm).1 rfl)).trans (HBX.out.keep HW6.out)
        have hx : a.tmps.getD 35 undef = .pointer (some ⟨wr.heap.size, 3, none⟩) := dep_at hdep 8 35 (by kernel_rfl)
        have c0 := hX6.cell 3 rfl
        exact wpList_load (v := .slice oc m cc) rfl rfl hx (by go_simp) ⟨rfl, _, rfl, rfl, Below.refl _ _⟩
       ·intro o ho a w1 hdf hsz hex hdep hrest hpre
        obtain rfl : _ = o := Option.some.inj ho
        have hWx : W6.grownBy w1 (Value.slice ov lv cv2).ownBlock := grown_drew hex
        have hX6 : BoxL w1 wr.heap.size 31 [.int .i64 args, .bool rest, .int .i64 regs, .slice oc m cc, .slice oal lal cal] := (hWx.block _ hlx (fun e => (HNB.out _ e.symm).2 rfl)).trans HX6.out
        have hX4 : BoxL w1 w4.heap.size 25 [.slice o5 l5 c5, .slice ov lv cv2] := (hWx.block _ hly (fun e => (HNB.out _ e.symm).1 rfl)).trans (HBX.out.keep HW6.out)
        have h36 : a.tmps.getD 36 undef = .slice oc m cc := dep_at hdep 9 36 (by kernel_rfl)
        refine wpList_callF (K := fun a' w' => ∃ v, a' = Act.put a (some 37) v ∧ ClR w.heap.size W6.heap.size w4.heap.size wr.heap.size j (.slice ov lv cv2) args regs rest (.slice oc m cc) (Peep.cleanC code) xs 10 v w' ∧ Below w1.heap.size w1 w') (f := 53) (s := 36) (x := .slice oc m cc) rfl rfl h36 (fun _ _ => rfl) (HCN.out _ (Lib.hid hWx)) ?_
        rintro e w5 ⟨sv, met, rfl, hmet, hsl5, hb5⟩
        refine ⟨_, rfl, _, rfl, ⟨hsl5.form, gap w5 0 w1.heap.size, w5.heap.size, Sub.of_gap (fun b hb => Nat.lt_of_lt_of_le hb hWx.size), Nat.le_refl _, ?_⟩, hb5⟩
        rw [← Peep.cleaned_eq hmet]
        exact hsl5
       ·intro o ho a w1 hdf hsz hex hdep hrest hpre
        obtain rfl : _ = o := Option.some.inj ho
        have h30 : a.tmps.getD 30 undef = .int .i64 args := dep_at hdep 3 30 (by kernel_rfl)
        have h32 : a.tmps.getD 32 undef = .bool rest := dep_at hdep 5 32 (by kernel_rfl)
        have h34 : a.tmps.getD 34 undef = .int .i64 regs := dep_at hdep 7 34 (by kernel_rfl)
        have h37 : CleanV (fun b => b < W6.heap.size) (Peep.cleanC code) (a.tmps.getD 37 undef) w1 := dep_at hdep 10 37 (by kernel_rfl)
        obtain ⟨⟨osv, lsv, csv, hq⟩, hre⟩ := h37
        exact wpList_build4 (v := .agg #[.int .i64 args, .bool rest, .int .i64 regs, .slice osv lsv csv, .slice none 0 0]) rfl rfl h30 h32 h34 hq (by go_simp) ⟨rfl, _, rfl, ⟨_, rfl, ⟨_, _, _, rfl⟩, by rw [hq] at hre; exact hre⟩, Below.refl _ _⟩
       ·intro o ho a w1 hdf hsz hex hdep hrest hpre
        obtain rfl : _ = o := Option.some.inj ho
        have hWx : W6.grownBy w1 (Value.slice ov lv cv2).ownBlock := grown_drew hex
        have hX6 : BoxL w1 wr.heap.size 31 [.int .i64 args, .bool rest, .int .i64 regs, .slice oc m cc, .slice oal lal cal] := (hWx.block _ hlx (fun e => (HNB.out _ e.symm).2 rfl)).trans HX6.out
        have hX4 : BoxL w1 w4.heap.size 25 [.slice o5 l5 c5, .slice ov lv cv2] := (hWx.block _ hly (fun e => (HNB.out _ e.symm).1 rfl)).trans (HBX.out.keep HW6.out)
        obtain ⟨sv, h38, hcv⟩ : ∃ sv, a.tmps.getD 38 undef = .agg #[.int .i64 args, .bool rest, .int .i64 regs, sv, .slice none 0 0] ∧ CleanV (fun b => b < W6.heap.size) (Peep.cleanC code) sv w1 := dep_at hdep 11 38 (by kernel_rfl)
        obtain ⟨osv, lsv, csv, rfl⟩ := hcv.1
        exact wpList_bs1 (v := .slice (some ⟨w1.heap.size, 0, none⟩) 1 1) (w' := w1.alloc (.cells #[.int .i64 args, .bool rest, .int .i64 regs, .slice osv lsv csv, .slice none 0 0] 31)) rfl rfl h38 (bs_proc _ _ _ _ _ _ _) ⟨rfl, _, rfl, ⟨_, _, rfl, hWx.size, BoxL.new rfl _ _, hcv.to (fun U hU => hU.below (Below.one _ _)) (by simp)⟩, Below.one _ _⟩
       ·intro o ho a w1 hdf hsz hex hdep hrest hpre
        obtain rfl : _ = o := Option.some.inj ho
        have hWx : W6.grownBy w1 (Value.slice ov lv cv2).ownBlock := grown_drew hex
        have hX6 : BoxL w1 wr.heap.size 31 [.int .i64 args, .bool rest, .int .i64 regs, .slice oc m cc, .slice oal lal cal] := (hWx.block _ hlx (fun e => (HNB.out _ e.symm).2 rfl)).trans HX6.out
        have hX4 : BoxL w1 w4.heap.size 25 [.slice o5 l5 c5, .slice ov lv cv2] := (hWx.block _ hly (fun e => (HNB.out _ e.symm).1 rfl)).trans (HBX.out.keep HW6.out)
        have h28 : a.tmps.getD 28 undef = .slice ov lv cv2 := dep_at hdep 1 28 (by kernel_rfl)
        obtain ⟨b, sv, h39, hbl, hbx39, hcv⟩ : ∃ b sv, a.tmps.getD 39 undef = .slice (some ⟨b, 0, none⟩) 1 1 ∧ W6.heap.size ≤ b ∧ BoxL w1 b 31 [.int .i64 args, .bool rest, .int .i64 regs, sv, .slice none 0 0] ∧ CleanV (fun b => b < W6.heap.size) (Peep.cleanC code) sv w1 := dep_at hdep 12 39 (by kernel_rfl)
        obtain ⟨osv, lsv, csv, rfl⟩ := hcv.1
        obtain ⟨i0, hi0, hz0, hz1, hz2⟩ := info_parts info_procC
        refine wpList_append_lies w1 rfl (.tmp 28) (.tmp 39) 23 rfl (w.heap.size + 2) 31 i0 (.agg #[.int .i64 0, .bool false, .int .i64 0, .slice none 0 0, .slice none 0 0]) 5 72 Tryz.underlying23 hi0 hz0 hz1 hz2 rfl (by decide) (.slice ov lv cv2) j xs h28 (hpre rfl) ⟨b, 0, none⟩ 1 1 [.int .i64 args, .bool rest, .int .i64 regs, .slice osv lsv csv, .slice none 0 0] h39 rfl (box_news hbx39) (by intro u hu; simp only [List.mem_cons, List.not_mem_nil, or_false] at hu; rcases hu with rfl | rfl | rfl | rfl | rfl <;> rfl) (by decide) (by unfold maxLen; omega) (by omega) (by have := hWx.size; omega) w1.heap.size rfl ?_
        intro g c w' h1 h2 h3 _
        refine ⟨rfl, _, rfl, ⟨g, c, .slice osv lsv csv, rfl, h1, hcv.to (fun U hU => hU.step h2.size (fun b hb hn => h2.block b hb (fun e => hn (HOL.out b e.symm))) (fun b hb hS => ?_)) h2.size, h3.imp id (fun e => by rw [e]; exact hWx.size)⟩, h2⟩
        rcases hS with h | rfl
        ·exact h
        ·rcases h3 with h | h
         ·exact HOL.out _ h
         ·omega
       ·intro o ho a w1 hdf hsz hex hdep hrest hpre
        obtain rfl : _ = o := Option.some.inj ho
        have hx : a.tmps.getD 4 undef = .pointer (some ⟨w4.heap.size, 0, none⟩) := hrest.at 4 (by kernel_rfl)
        exact wpList_field (v := .pointer (some ⟨w4.heap.size, 1, none⟩)) rfl rfl hx (by go_simp) ⟨rfl, _, rfl, rfl, Below.refl _ _⟩
      case hend =>
       intro a w7 hdf hsz hex hval hrest
       have hsp := hrest.spell hsz hdf [27, 28, 29, 30, 31, 32, 33, 34, 35, 36, 37, 38, 39, 40, 41] (by kernel_rfl)
       have h13 : ClR w.heap.size W6.heap.size w4.heap.size wr.heap.size j (.slice ov lv cv2) args regs rest (.slice oc m cc) (Peep.cleanC code) xs 13 (a.tmps.getD 40 undef) w7 := hval 13 _ 40 (by omega) rfl rfl
       obtain ⟨g, c, sv, h40, hown7, hcv, hgo⟩ := h13
       have h41 : a.tmps.getD 41 undef = .pointer (some ⟨w4.heap.size, 1, none⟩) := hval 14 _ 41 (by omega) rfl rfl
       rw [h40] at hown7
       simp only [List.foldl_cons, List.foldl_nil, h40, h41] at hsp
       generalize a.tmps.getD 27 undef = v27 at hsp
       generalize a.tmps.getD 28 undef = v28 at hsp
       generalize a.tmps.getD 29 undef = v29 at hsp
       generalize a.tmps.getD 30 undef = v30 at hsp
       generalize a.tmps.getD 31 undef = v31 at hsp
       generalize a.tmps.getD 32 undef = v32 at hsp
       generalize a.tmps.getD 33 undef = v33 at hsp
       generalize a.tmps.getD 34 undef = v34 at hsp
       generalize a.tmps.getD 35 undef = v35 at hsp
       generalize a.tmps.getD 36 undef = v36 at hsp
       generalize a.tmps.getD 37 undef = v37 at hsp
       generalize a.tmps.getD 38 undef = v38 at hsp
       generalize a.tmps.getD 39 undef = v39 at hsp
       have hst := clV_step HB.out HBU.out HBR.out HBX.out HOW.out HCS.out ⟨U, B', HSUB.out, hB', HRS.out⟩ hb4l HPJ.out HW6.out (grown_drew hex) hcv HBA.out HBG.out hown7 hgo
       have s1 := hst.1.cell 1 rfl
       have s2 := hst.1.free 1
       have s3 := hst.1.lt
       have HF2 := Lib.hid hst.2
       clear hval hrest hdf hsz h40 h41 hex hst hcv hown7 hgo x0 x1 x2 x3 y1
       subst hsp
       simp only [List.drop_succ_cons, List.drop_zero]
       go_wp2_with fail
       go_roundg (np - (j + 1))
       case measure => omega
       case rel => exact ⟨j + 1, rfl, by omega, by go_num, HF2⟩
    ·obtain rfl : j = np := by omega
     have HCS := Lib.hid (show CellsG 5 (ProcN wr (fun b => b = w4.heap.size ∨ b = w.heap.size + 1 ∨ (Value.slice ov lv cv2).ownBlock = some b)) (u.procs.map Peep.cleanP) xs from by rw [← List.take_of_length_le (l := u.procs) (i := j) (by rw [← HNP.out]; exact Nat.le_refl _)]; exact hcs)
     have q0 := hbx.cell 0 rfl
     have q1 := hbx.cell 1 rfl
     have hql := hbx.lt
     have r0 := hbr.cell 0 rfl
     have r1 := hbr.cell 1 rfl
     have z0 := hbr.free 0
     have z1 := hbr.free 1
     have hlr := hbr.lt
     have bN := (hbr.set 0 (.slice o5 l5 c5)).set 1 (.slice ov lv cv2)
     have n0 := bN.cell 0 rfl
     have n1 := bN.cell 1 rfl
     have HBF := Lib.hid ((hb.setCell (p := ⟨w.heap.size + 1, 0, none⟩) (by dsimp only; omega) (.slice o5 l5 c5)).setCell (p := ⟨w.heap.size + 1, 1, none⟩) (by dsimp only; omega) (.slice ov lv cv2))
     have hst : ∀ V, Sub (fun b => b = w4.heap.size ∨ b = w.heap.size + 1 ∨ (Value.slice ov lv cv2).ownBlock = some b) V wr → Sub (fun b => b = w4.heap.size ∨ b = w.heap.size + 1 ∨ (Value.slice ov lv cv2).ownBlock = some b) V ((wr.setCell ⟨w.heap.size + 1, 0, none⟩ (.slice o5 l5 c5)).setCell ⟨w.heap.size + 1, 1, none⟩ (.slice ov lv cv2)) := fun V hV => (hV.set ⟨w.heap.size + 1, 0, none⟩ _ (.inr (.inl rfl))).set ⟨w.heap.size + 1, 1, none⟩ _ (.inr (.inl rfl))
     have HUR := Lib.hid (show UntR ((wr.setCell ⟨w.heap.size + 1, 0, none⟩ (.slice o5 l5 c5)).setCell ⟨w.heap.size + 1, 1, none⟩ (.slice ov lv cv2)) ((wr.setCell ⟨w.heap.size + 1, 0, none⟩ (.slice o5 l5 c5)).setCell ⟨w.heap.size + 1, 1, none⟩ (.slice ov lv cv2)).heap.size ⟨u.consts, u.procs.map Peep.cleanP⟩ (.agg #[.slice o5 l5 c5, .slice ov lv cv2]) from by
      refine ⟨_, _, rfl, hrs.cellsTo (hst U hsub).cells (by rw [World.size_setCell, World.size_setCell]; exact hB'), ?_⟩
      refine slC_of_row (te := 31) (base := w.heap.size + 2) ?_ (HCS.out.mono fun x _ cs h => (h.to hst (by rw [World.size_setCell, World.size_setCell]; exact Nat.le_refl _)).read)
      have ho : World.ownsRow ((wr.setCell ⟨w.heap.size + 1, 0, none⟩ (.slice o5 l5 c5)).setCell ⟨w.heap.size + 1, 1, none⟩ (.slice ov lv cv2)) (w.heap.size + 2) 31 5 (.slice ov lv cv2) j xs := ownsRow_setCell_below (ownsRow_setCell_below hown (a := ⟨w.heap.size + 1, 0, none⟩) (by dsimp only; omega) _) (a := ⟨w.heap.size + 1, 1, none⟩) (by dsimp only; omega) _
      rwa [List.length_map, ← HNP.out])
     clear hb hbu hbr hbx hown hcs hsub hrs bN hst HCS
     go_wp2_with fail
     refine bodyPost_ret (v := .tuple #[.agg #[.slice o5 l5 c5, .slice ov lv cv2], .int .i64 0]) (by simp [results, Tryz.results27, go_sem, n0, n1]) rfl ⟨.slice o5 l5 c5, .slice ov lv cv2, by rw [HF.out.1], ?_, HBF.out⟩
     rw [HF.out.2]
     exact HUR.out
end
section
open Go Go.RowKit
def code18 : List Ins := [⟨15, 0, 2, 0, []⟩, ⟨22, 0, 0, 0, []⟩, ⟨15, 0, 3, 0, []⟩, ⟨22, 0, 1, 0, []⟩]
def unit18 : Unt := ⟨[], [⟨2, false, 2, code18, []⟩]⟩
theorem ok18 : Peep.clOk unit18 = true := by decide +kernel
theorem short18 : Live.Short unit18 := by
 intro p hp
 obtain rfl : p = _ := by simpa [unit18] using hp
 refine ⟨by decide, fun x hx => ?_⟩
 simp only [code18, List.mem_cons, List.not_mem_nil, or_false] at hx
 rcases hx with rfl | rfl | rfl | rfl <;> decide
namespace Peep
theorem turned18 : turned code18 = [⟨15, 0, 3, 0, []⟩, ⟨22, 0, 0, 0, []⟩, ⟨15, 0, 3, 0, []⟩, ⟨22, 0, 1, 0, []⟩] := by rfl
theorem met18 (k : Nat) : (decide (k = 0) || decide (k = 3)) = true ↔ Reach (turned code18) k := by
 rw [turned18]
 constructor
 ·intro h
  simp only [Bool.or_eq_true, decide_eq_true_eq] at h
  rcases h with rfl | rfl
  ·exact .zero
  ·exact .step (k := 0) (x := ⟨15, 0, 3, 0, []⟩) .zero rfl (by simp [succs])
 ·intro h
  simp only [Bool.or_eq_true, decide_eq_true_eq]
  refine h.sub (S := fun k => k = 0 ∨ k = 3) (.inl rfl) (fun k x hk hx j hj => ?_)
  rcases hk with rfl | rfl
  ·obtain rfl : _ = x := Option.some.inj hx
   simp [succs] at hj
   exact .inr hj
  ·obtain rfl : _ = x := Option.some.inj hx
   simp [succs] at hj
theorem clean18 : cleanU unit18 = ⟨[], [⟨2, false, 2, [⟨22, 0, 1, 0, []⟩], []⟩]⟩ := by
 rw [cleanU, ok18]
 show (⟨[], [cleanP ⟨2, false, 2, code18, []⟩]⟩ : Unt) = _
 rw [cleanP]
 show (⟨[], [⟨2, false, 2, cleanC code18, []⟩]⟩ : Unt) = _
 rw [← cleaned_eq (met := fun k => decide (k = 0) || decide (k = 3)) met18]
 rfl
end Peep
theorem awake18_any (w : World) : Calls Tryz.prog 25 #[] w fun e w' => e = .returned (.bool true) ∧ Below w.heap.size w w' := by
 go_enter Tryz.func25, Tryz.ntmps25
 go_upto_region 2 with fail
 obtain ⟨W, hW⟩ : ∃ W, ((w.alloc (.cells #[.int .i64 15, .int .i64 0, .int .i64 2, .int .i64 0, .slice none 0 0, .int .i64 22, .int .i64 0, .int .i64 0, .int .i64 0, .slice none 0 0, .int .i64 15, .int .i64 0, .int .i64 3, .int .i64 0, .slice none 0 0, .int .i64 22, .int .i64 0, .int .i64 1, .int .i64 0, .slice none 0 0] 34)).alloc (.cells #[.int .i64 2, .bool false, .int .i64 2, .slice (some ⟨w.heap.size, 0, none⟩) 4 4, .slice none 0 0] 31)).alloc (.cells #[.slice none 0 0, .slice (some ⟨w.heap.size + 1, 0, none⟩) 1 1] 25) = W := ⟨_, rfl⟩
 have HU := Lib.hid (show UntR W W.heap.size unit18 (.agg #[.slice none 0 0, .slice (some ⟨w.heap.size + 1, 0, none⟩) 1 1]) from by
  have h2 : BoxL W w.heap.size 34 [.int .i64 15, .int .i64 0, .int .i64 2, .int .i64 0, .slice none 0 0, .int .i64 22, .int .i64 0, .int .i64 0, .int .i64 0, .slice none 0 0, .int .i64 15, .int .i64 0, .int .i64 3, .int .i64 0, .slice none 0 0, .int .i64 22, .int .i64 0, .int .i64 1, .int .i64 0, .slice none 0 0] := by rw [← hW]; exact ((BoxL.new rfl _ _).alloc _).alloc _
  have h3 : BoxL W (w.heap.size + 1) 31 [.int .i64 2, .bool false, .int .i64 2, .slice (some ⟨w.heap.size, 0, none⟩) 4 4, .slice none 0 0] := by rw [← hW]; exact (BoxL.new (by simp) _ _).alloc _
  have hn := ints_nil W W.heap.size
  have hcode : SlC W W.heap.size 5 (InsR W W.heap.size) code18 (.slice (some ⟨w.heap.size, 0, none⟩) 4 4) := slC_of_box h2 h2.lt
   ⟨[.int .i64 15, .int .i64 0, .int .i64 2, .int .i64 0, .slice none 0 0], _, rfl, rfl, ⟨_, rfl, by decide, by decide, by decide, by decide, hn⟩, [.int .i64 22, .int .i64 0, .int .i64 0, .int .i64 0, .slice none 0 0], _, rfl, rfl, ⟨_, rfl, by decide, by decide, by decide, by decide, hn⟩,
    [.int .i64 15, .int .i64 0, .int .i64 3, .int .i64 0, .slice none 0 0], _, rfl, rfl, ⟨_, rfl, by decide, by decide, by decide, by decide, hn⟩, [.int .i64 22, .int .i64 0, .int .i64 1, .int .i64 0, .slice none 0 0], [], rfl, rfl, ⟨_, rfl, by decide, by decide, by decide, by decide, hn⟩, rfl⟩ rfl (by omega)
  exact ⟨_, _, rfl, ⟨none, 0, 0, rfl, rfl, by omega, by omega, rfl, rfl⟩, slC_of_box h3 h3.lt ⟨[.int .i64 2, .bool false, .int .i64 2, .slice (some ⟨w.heap.size, 0, none⟩) 4 4, .slice none 0 0], [], rfl, rfl, ⟨_, _, rfl, by decide, by decide, hcode, ⟨none, 0, 0, rfl, rfl, by omega, by omega, rfl, rfl⟩⟩, rfl⟩ rfl (by omega)⟩)
 have HBX := Lib.hid (show BoxL W (w.heap.size + 1 + 1) 25 [.slice none 0 0, .slice (some ⟨w.heap.size + 1, 0, none⟩) 1 1] from by rw [← hW]; exact BoxL.new (by simp) _ _)
 have HWB := Lib.hid (show Below w.heap.size w W from by
  rw [← hW]
  exact ((Below.one w _).trans ((Below.one _ _).mono (by simp))).trans ((Below.one _ _).mono (by simp; omega)))
 rw [hW]
 have HC := Lib.hid (cleanU_any unit18 _ W.heap.size W HU.out (Nat.le_refl _) short18 (by decide))
 rw [Peep.clean18, show Peep.clErr unit18 = 0 from by rw [Peep.clErr, ok18]; rfl] at HC
 have U0 := HBX.out.cell 0 rfl
 have U1 := HBX.out.cell 1 rfl
 have hul := HBX.out.lt
 clear hW
 go_wp2_with fail
 refine HC.out.mono ?_
 rintro e w1 ⟨cv, pv, rfl, hu, hb1⟩
 obtain ⟨cv', pv', he, hcv, hpv⟩ := hu
 simp only [Value.agg.injEq, Array.mk.injEq, List.cons.injEq, and_true] at he
 obtain ⟨rfl, rfl⟩ := he
 obtain ⟨o0, l0, c0, rfl, _⟩ := hcv
 obtain ⟨o1, l1, c1, rfl⟩ := hpv.form
 obtain rfl : l1 = 1 := hpv.lens.1
 obtain ⟨b1, off1, cs, ho1, hb1B, hcl, hcell, sl0, al0, rfl, _, _, hsl, hal⟩ := hpv.at (Below.refl _ _) (j := 0) rfl
 subst ho1
 obtain ⟨o2, l2, c2, rfl⟩ := hsl.form
 obtain ⟨o3, l3, c3, rfl⟩ := hal.form
 obtain rfl : l2 = 1 := hsl.lens.1
 obtain ⟨b2, off2, cs, ho2, hb2B, hcl2, hcell2, sl1, rfl, _, _, _, _, hsl1⟩ := hsl.at (Below.refl _ _) (j := 0) rfl
 subst ho2
 have e3 := hcell 3 _ rfl
 have f2 := hcell2 2 _ rfl
 rw [Nat.zero_mul, Nat.add_zero] at e3 f2
 have hl3 := cell_lt e3
 have hl4 := cell_lt f2
 have HBE := Lib.hid (Below.next HWB.out hb1)
 have hc1 := hpv.lens.2
 have hc2 := hsl.lens.2
 clear hpv hcell hcell2 hsl hal hsl1 hcl hcl2 hb1 HC U0 U1 hul
 dsimp only at f2
 go_wp2_with fail
 go_ret
 exact ⟨rfl, Below.next HBE.out (Below.one _ _)⟩
end
end Go.Proofs.YtigkhmppnnljiaaGreatDoor

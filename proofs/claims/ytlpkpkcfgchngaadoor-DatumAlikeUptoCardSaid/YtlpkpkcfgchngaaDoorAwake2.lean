/-
  The contract of corbellaw02.awake.
-/
import Derived.Test.YtlpkpkcfgchngaaDoorWrite4
import Derived.Test.YtlpkpkcfgchngaaDoorList2
import Derived.Test.YtlpkpkcfgchngaaDoorRow
import Derived.Test.YtlpkpkcfgchngaaDoorMono
import Derived.Test.YtlpkpkcfgchngaaDoorZero
namespace Go.Proofs.YtlpkpkcfgchngaaDoor
open Go.RowKit

def datA : Dat := .mk 3 0 0 ⟨#[97]⟩ []
def datX : Dat := .mk 2 0 0 ⟨#[120]⟩ []
def datOne : Dat := .mk 0 1 1 ⟨#[]⟩ []
def datTwo : Dat := .mk 0 2 1 ⟨#[]⟩ []

theorem rep_leaf {w : World} {B : Nat} (k n d : Int) (s : ByteArray) (hk : -9223372036854775808 ≤ k ∧ k ≤ 9223372036854775807) (hn : -9223372036854775808 ≤ n ∧ n ≤ 9223372036854775807) (hd : -9223372036854775808 ≤ d ∧ d ≤ 9223372036854775807) (hs : s.size ≤ 140737488351232) :
    RepD w B (.mk k n d s []) (.agg #[.int .i64 k, .int .i64 n, .int .i64 d, .string s, .slice none 0 0]) :=
  RepD.shut hk hn hd hs ⟨none, 0, 0, rfl, rfl, by omega, by omega, rfl, rfl⟩

/-- A slice over a new block. -/
theorem repS_new {w : World} {l : List Dat} {cs : List Value} {t : TypeId} {n : Nat} (hn : n = l.length) (hm : n ≤ 1000) (h : CellsD w w.heap.size l cs) : RepS (w.alloc (.cells cs.toArray t)) (w.alloc (.cells cs.toArray t)).heap.size l (.slice (some ⟨w.heap.size, 0, none⟩) n n) := by
  refine ⟨some ⟨w.heap.size, 0, none⟩, n, n, rfl, hn, Nat.le_refl _, by omega, fun _ => ⟨rfl, by simp⟩, ?_⟩
  refine (h.mono (B' := (w.alloc (.cells cs.toArray t)).heap.size) fun x v hx => (hx.kept ((Below.refl _ _).alloc (Nat.le_refl _) _)).wider (by simp)).repC fun j u hj => ?_
  rw [Nat.zero_add]
  exact box_cell w _ t j (by simpa using hj)

theorem repS_cells {W : World} {b n : Nat} {l : List Dat} {cs : List Value} (hn : n = l.length) (hm : n ≤ 1000) (hb : b < W.heap.size) (h : CellsD W W.heap.size l cs) (hc : ∀ j u, cs[j]? = some u → W.cell? ⟨b, j, none⟩ = some u) : RepS W W.heap.size l (.slice (some ⟨b, 0, none⟩) n n) :=
  ⟨some ⟨b, 0, none⟩, n, n, rfl, hn, Nat.le_refl _, by omega, fun _ => ⟨rfl, hb⟩, h.repC fun j u hj => by rw [Nat.zero_add]; exact hc j u hj⟩

theorem repS_one {W : World} {b : Nat} {x : Dat} {c0 c1 c2 c3 c4 : Value} (hx : RepD W W.heap.size x (.agg #[c0, c1, c2, c3, c4])) (hb : b < W.heap.size) (h0 : W.cell? ⟨b, 0, none⟩ = some c0) (h1 : W.cell? ⟨b, 1, none⟩ = some c1) (h2 : W.cell? ⟨b, 2, none⟩ = some c2) (h3 : W.cell? ⟨b, 3, none⟩ = some c3) (h4 : W.cell? ⟨b, 4, none⟩ = some c4) :
    RepS W W.heap.size [x] (.slice (some ⟨b, 0, none⟩) 1 1) := by
  refine repS_cells rfl (by omega) hb (cs := [c0, c1, c2, c3, c4]) ⟨c0, c1, c2, c3, c4, [], rfl, hx, rfl⟩ fun j u hj => ?_
  match j, hj with
  | 0, hj => simp at hj; rw [← hj]; exact h0
  | 1, hj => simp at hj; rw [← hj]; exact h1
  | 2, hj => simp at hj; rw [← hj]; exact h2
  | 3, hj => simp at hj; rw [← hj]; exact h3
  | 4, hj => simp at hj; rw [← hj]; exact h4

theorem heap_cell {W : World} {b : Nat} {cs : Array Value} {t : TypeId} {fz : Nat × Nat} (h : W.heap[b]? = some (.cells cs t fz)) (j : Nat) {u : Value} (hj : cs[j]? = some u) : W.cell? ⟨b, j, none⟩ = some u := by
  unfold World.cell?; rw [h]; simpa using hj
theorem repS_heap {W : World} {b n : Nat} {l : List Dat} {cs : List Value} {t : TypeId} {fz : Nat × Nat} (hn : n = l.length) (hm : n ≤ 1000) (hb : W.heap[b]? = some (.cells cs.toArray t fz)) (h : CellsD W W.heap.size l cs) : RepS W W.heap.size l (.slice (some ⟨b, 0, none⟩) n n) :=
  repS_cells hn hm (Array.getElem?_eq_some_iff.1 hb).1 h fun j u hj => heap_cell hb j (by simpa using hj)

theorem heap_new_drew (w : World) (o : Obj) : ((w.alloc o).drew).heap[w.heap.size]? = some o := World.alloc_heap_new w o

theorem keep5 {W W2 : World} (hb : Below W.heap.size W W2) {b : Nat} (hlt : b < W.heap.size) {c0 c1 c2 c3 c4 : Value} (h : W.cell? ⟨b, 0, none⟩ = some c0 ∧ W.cell? ⟨b, 1, none⟩ = some c1 ∧ W.cell? ⟨b, 2, none⟩ = some c2 ∧ W.cell? ⟨b, 3, none⟩ = some c3 ∧ W.cell? ⟨b, 4, none⟩ = some c4) :
    W2.cell? ⟨b, 0, none⟩ = some c0 ∧ W2.cell? ⟨b, 1, none⟩ = some c1 ∧ W2.cell? ⟨b, 2, none⟩ = some c2 ∧ W2.cell? ⟨b, 3, none⟩ = some c3 ∧ W2.cell? ⟨b, 4, none⟩ = some c4 := by
  have g : ∀ i, W2.cell? ⟨b, i, none⟩ = W.cell? ⟨b, i, none⟩ := fun i => hb.cell (p := ⟨b, i, none⟩) hlt
  rw [g, g, g, g, g]; exact h

def dat1 : Dat := Dat.list [datA]
def dat2 : Dat := Dat.list [datOne, datX, dat1]
theorem listA_any (W : World) (b : Nat) (hb : W.heap[b]? = some (.cells #[.int .i64 3, .int .i64 0, .int .i64 0, .string ⟨#[97]⟩, .slice none 0 0] 24 (0, 0))) :
    Calls Tryd.prog 13 #[.slice (some ⟨b, 0, none⟩) 1 1] W (DatPost dat1 W) :=
  list_any [datA] _ _ W (repS_heap (cs := [.int .i64 3, .int .i64 0, .int .i64 0, .string ⟨#[97]⟩, .slice none 0 0]) rfl (by decide) hb ⟨_, _, _, _, _, [], rfl, rep_leaf 3 0 0 ⟨#[97]⟩ (by omega) (by omega) (by omega) (by decide), rfl⟩) (Nat.le_refl _)
theorem listB_any (W : World) (b : Nat) (c0 c1 c2 c3 c4 : Value) (hb : W.heap[b]? = some (.cells #[.int .i64 0, .int .i64 1, .int .i64 1, .string ⟨#[]⟩, .slice none 0 0, .int .i64 2, .int .i64 0, .int .i64 0, .string ⟨#[120]⟩, .slice none 0 0, c0, c1, c2, c3, c4] 24 (0, 0))) (hr : RepD W W.heap.size dat1 (.agg #[c0, c1, c2, c3, c4])) :
    Calls Tryd.prog 13 #[.slice (some ⟨b, 0, none⟩) 3 3] W (DatPost dat2 W) :=
  list_any [datOne, datX, dat1] _ _ W (repS_heap (cs := [.int .i64 0, .int .i64 1, .int .i64 1, .string ⟨#[]⟩, .slice none 0 0, .int .i64 2, .int .i64 0, .int .i64 0, .string ⟨#[120]⟩, .slice none 0 0, c0, c1, c2, c3, c4]) rfl (by decide) hb
    ⟨_, _, _, _, _, _, rfl, rep_leaf 0 1 1 ⟨#[]⟩ (by omega) (by omega) (by omega) (by decide), _, _, _, _, _, _, rfl, rep_leaf 2 0 0 ⟨#[120]⟩ (by omega) (by omega) (by omega) (by decide), _, _, _, _, _, [], rfl, hr, rfl⟩) (Nat.le_refl _)

theorem repD_alloc {W : World} {x : Dat} {v : Value} (o : Obj) (h : RepD W W.heap.size x v) : RepD (W.alloc o) (W.alloc o).heap.size x v := (h.kept ((Below.refl _ _).alloc (Nat.le_refl _) _)).wider (by simp)

/-- The cells of the document's 1. -/
def OneAt (b : Nat) (W : World) : Prop := W.cell? ⟨b, 0, none⟩ = some (.int .i64 0) ∧ W.cell? ⟨b, 1, none⟩ = some (.int .i64 1) ∧ W.cell? ⟨b, 2, none⟩ = some (.int .i64 1) ∧ W.cell? ⟨b, 3, none⟩ = some (.string ⟨#[]⟩) ∧ W.cell? ⟨b, 4, none⟩ = some (.slice none 0 0)
/-- .. a datum is handed back, and they are kept. -/
def DatPost5 (x : Dat) (b : Nat) (w : World) (e : Ending) (w' : World) : Prop := ∃ (k n d : Int) (s : ByteArray) (o : Option Addr) (len cap : Nat), e = .returned (.agg #[.int .i64 k, .int .i64 n, .int .i64 d, .string s, .slice o len cap]) ∧ RepD w' w'.heap.size x (.agg #[.int .i64 k, .int .i64 n, .int .i64 d, .string s, .slice o len cap]) ∧ Below w.heap.size w w' ∧ w.heap.size ≤ w'.heap.size ∧ OneAt b w'
theorem lt_new (W : World) (o : Obj) {b : Nat} (h : b < W.heap.size) : b < (W.alloc o).heap.size := by simp; omega
theorem lt_new_drew (W : World) (o : Obj) {b : Nat} (h : b < W.heap.size) : b < ((W.alloc o).drew).heap.size := lt_new W o h
theorem datPost5 {x : Dat} {b : Nat} {w : World} (hlt : b < w.heap.size) (h : OneAt b w) {e : Ending} {w' : World} (hp : DatPost x w e w') : DatPost5 x b w e w' := by
  obtain ⟨v, he, hr, hb⟩ := hp
  obtain ⟨k, n, d, s, o, len, cap, rfl⟩ := agg_of hr
  exact ⟨k, n, d, s, o, len, cap, he, hr, hb, hb.size, keep5 hb hlt h⟩

/-- A new datum's box, not yet written, behind a call. -/
theorem boxZ {W w2 : World} {p : Nat} (hb : Below W.heap.size W w2) (h : W.heap[p]? = some (.cells #[.int .i64 0, .int .i64 0, .int .i64 0, .string ⟨#[]⟩, .slice none 0 0] 24 (0, 0))) : Box5 w2 p 24 (.int .i64 0) (.int .i64 0) (.int .i64 0) (.string ⟨#[]⟩) (.slice none 0 0) :=
  (hb.block p (Array.getElem?_eq_some_iff.1 h).1).trans h
theorem Box5.both {W : World} {B : Nat} {t : TypeId} {c0 c1 c2 c3 c4 : Value} (h : Box5 W B t c0 c1 c2 c3 c4) : (W.cell? ⟨B, 0, none⟩ = some c0 ∧ W.cell? ⟨B, 1, none⟩ = some c1 ∧ W.cell? ⟨B, 2, none⟩ = some c2 ∧ W.cell? ⟨B, 3, none⟩ = some c3 ∧ W.cell? ⟨B, 4, none⟩ = some c4) ∧
    (W.frozen? ⟨B, 0, none⟩ = false ∧ W.frozen? ⟨B, 1, none⟩ = false ∧ W.frozen? ⟨B, 2, none⟩ = false ∧ W.frozen? ⟨B, 3, none⟩ = false ∧ W.frozen? ⟨B, 4, none⟩ = false) ∧ B < W.heap.size := ⟨h.cells, h.free, h.lt⟩

theorem heap_old2 (w : World) (o o2 : Obj) : ((w.alloc o).alloc o2).heap[w.heap.size]? = some o := (Below.heap_alloc _ _ _ (by simp)).trans (World.alloc_heap_new w o)
theorem heap_old2_drew (w : World) (o o2 : Obj) : (((w.alloc o).alloc o2).drew).heap[w.heap.size]? = some o := heap_old2 w o o2
theorem heap_new2 (w : World) (o o2 : Obj) : ((w.alloc o2).alloc o).heap[w.heap.size + 1]? = some o := by
  have := World.alloc_heap_new (w.alloc o2) o
  rwa [World.size_alloc] at this
theorem heap_new2_drew (w : World) (o o2 : Obj) : (((w.alloc o2).alloc o).drew).heap[w.heap.size + 1]? = some o := heap_new2 w o o2

theorem listA5 (W : World) (b b0 : Nat) (hb : W.heap[b]? = some (.cells #[.int .i64 3, .int .i64 0, .int .i64 0, .string ⟨#[97]⟩, .slice none 0 0] 24 (0, 0))) (hlt : b0 < W.heap.size) (h : OneAt b0 W) :
    Calls Tryd.prog 13 #[.slice (some ⟨b, 0, none⟩) 1 1] W (DatPost5 dat1 b0 W) := (listA_any W b hb).mono fun _ _ hp => datPost5 hlt h hp
theorem listB5 (W : World) (b b0 : Nat) (c0 c1 c2 c3 c4 : Value) (hb : W.heap[b]? = some (.cells #[.int .i64 0, .int .i64 1, .int .i64 1, .string ⟨#[]⟩, .slice none 0 0, .int .i64 2, .int .i64 0, .int .i64 0, .string ⟨#[120]⟩, .slice none 0 0, c0, c1, c2, c3, c4] 24 (0, 0))) (hr : RepD W W.heap.size dat1 (.agg #[c0, c1, c2, c3, c4])) (hlt : b0 < W.heap.size) (h : OneAt b0 W) :
    Calls Tryd.prog 13 #[.slice (some ⟨b, 0, none⟩) 3 3] W (DatPost5 dat2 b0 W) := (listB_any W b c0 c1 c2 c3 c4 hb hr).mono fun _ _ hp => datPost5 hlt h hp

theorem act_open {a : Act} (h : a.tmps.size = 22) (hd : a.defers = []) : ∃ x0 x1 x2 x3 x4 x5 x6 x7 x8 x9 x10 x11 x12 x13 x14 x15 x16 x17 x18 x19 x20 x21, a = { tmps := #[x0, x1, x2, x3, x4, x5, x6, x7, x8, x9, x10, x11, x12, x13, x14, x15, x16, x17, x18, x19, x20, x21], defers := [] } := by
  obtain ⟨⟨l⟩, d⟩ := a
  simp only at hd
  subst hd
  match l, h with
  | [x0, x1, x2, x3, x4, x5, x6, x7, x8, x9, x10, x11, x12, x13, x14, x15, x16, x17, x18, x19, x20, x21], _ => exact ⟨x0, x1, x2, x3, x4, x5, x6, x7, x8, x9, x10, x11, x12, x13, x14, x15, x16, x17, x18, x19, x20, x21, rfl⟩

/-- What each operation of awake's drawn region makes. -/
def AwakeR (H : Nat) (i : Nat) (v : Value) (W : World) : Prop := match i with
  | 0 => v = .agg #[.int .i64 0, .int .i64 1, .int .i64 1, .string ⟨#[]⟩, .slice none 0 0]
  | 1 => v = .agg #[.int .i64 2, .int .i64 0, .int .i64 0, .string ⟨#[120]⟩, .slice none 0 0]
  | 2 => v = .agg #[.int .i64 3, .int .i64 0, .int .i64 0, .string ⟨#[97]⟩, .slice none 0 0]
  | 3 => ∃ b, v = .slice (some ⟨b, 0, none⟩) 1 1 ∧ W.heap[b]? = some (.cells #[.int .i64 3, .int .i64 0, .int .i64 0, .string ⟨#[97]⟩, .slice none 0 0] 24 (0, 0))
  | 4 => ∃ (k n d : Int) (s : ByteArray) (o : Option Addr) (len cap : Nat), v = .agg #[.int .i64 k, .int .i64 n, .int .i64 d, .string s, .slice o len cap] ∧ RepD W W.heap.size dat1 (.agg #[.int .i64 k, .int .i64 n, .int .i64 d, .string s, .slice o len cap])
  | 5 => ∃ b c0 c1 c2 c3 c4, v = .slice (some ⟨b, 0, none⟩) 3 3 ∧ W.heap[b]? = some (.cells #[.int .i64 0, .int .i64 1, .int .i64 1, .string ⟨#[]⟩, .slice none 0 0, .int .i64 2, .int .i64 0, .int .i64 0, .string ⟨#[120]⟩, .slice none 0 0, c0, c1, c2, c3, c4] 24 (0, 0)) ∧ RepD W W.heap.size dat1 (.agg #[c0, c1, c2, c3, c4])
  | 6 => ∃ (k n d : Int) (s : ByteArray) (o : Option Addr) (len cap : Nat), v = .agg #[.int .i64 k, .int .i64 n, .int .i64 d, .string s, .slice o len cap] ∧ RepD W W.heap.size dat2 (.agg #[.int .i64 k, .int .i64 n, .int .i64 d, .string s, .slice o len cap])
  | _ => ∃ p, v = .pointer (some ⟨p, 0, none⟩) ∧ H + 1 ≤ p ∧ Box5 W p 24 (.int .i64 0) (.int .i64 0) (.int .i64 0) (.string ⟨#[]⟩) (.slice none 0 0)

theorem awakeR_kept (H : Nat) : ∀ i v A B, i < 8 → AwakeR H i v A → Below A.heap.size A B → AwakeR H i v B := by
  intro i v A B hi h hb
  have hr : ∀ x u, RepD A A.heap.size x u → RepD B B.heap.size x u := fun x u h => (h.kept hb).wider hb.size
  have hh : ∀ b o, A.heap[b]? = some o → B.heap[b]? = some o := fun b o h => (hb.block b (Array.getElem?_eq_some_iff.1 h).1).trans h
  match i, hi, h with
  | 0, _, h => exact h
  | 1, _, h => exact h
  | 2, _, h => exact h
  | 3, _, ⟨b, h1, h2⟩ => exact ⟨b, h1, hh _ _ h2⟩
  | 4, _, ⟨k, n, d, s, o, len, cap, h1, h2⟩ => exact ⟨k, n, d, s, o, len, cap, h1, hr _ _ h2⟩
  | 5, _, ⟨b, c0, c1, c2, c3, c4, h1, h2, h3⟩ => exact ⟨b, c0, c1, c2, c3, c4, h1, hh _ _ h2, hr _ _ h3⟩
  | 6, _, ⟨k, n, d, s, o, len, cap, h1, h2⟩ => exact ⟨k, n, d, s, o, len, cap, h1, hr _ _ h2⟩
  | 7, _, ⟨p, h1, h2, h3⟩ => exact ⟨p, h1, h2, hh _ _ h3⟩

def dat3 : Dat := Dat.pair datOne datTwo
theorem text2 : Dat.text dat2 false = [40, 49, 32, 120, 32, 40, 34, 97, 34, 41, 41] := by
  have h1 : Num.text 1 1 = [49] := by decide +kernel
  simp [dat2, dat1, datOne, datX, datA, Dat.list, Dat.pair, Dat.null, Dat.text, Dat.textP, Dat.textA, h1]
theorem text3 : Dat.text dat3 false = [40, 49, 32, 46, 32, 50, 41] := by
  have h1 : Num.text 1 1 = [49] := by decide +kernel
  have h2 : Num.text 2 1 = [50] := by decide +kernel
  simp [dat3, datOne, datTwo, Dat.pair, Dat.text, Dat.textP, Dat.textA, h1, h2]
theorem full2 : Dat.full dat2 = [40, 49, 32, 120, 32, 40, 34, 97, 34, 41, 41] := by rw [Dat.full, if_pos (by decide +kernel), text2]
theorem full3 : Dat.full dat3 = [40, 49, 32, 46, 32, 50, 41] := by rw [Dat.full, if_pos (by decide +kernel), text3]
theorem right2 : (Dat.text dat2 false).length ≤ 140737488355328 := by rw [text2]; decide
theorem right3 : (Dat.text dat3 false).length ≤ 140737488355328 := by rw [text3]; decide
theorem env_kept {w w' : World} (h : Env w) (hb : Below w.heap.size w w') : Env w' := ((EnvAt.of h).kept hb).1
/-- A slice of the document's two numbers. -/
theorem rep3 {W : World} {b : Nat} {t : TypeId} (hb : W.heap[b]? = some (.cells #[.int .i64 0, .int .i64 1, .int .i64 1, .string ⟨#[]⟩, .slice none 0 0, .int .i64 0, .int .i64 2, .int .i64 1, .string ⟨#[]⟩, .slice none 0 0] t (0, 0))) :
    RepD W W.heap.size dat3 (.agg #[.int .i64 6, .int .i64 0, .int .i64 0, .string ⟨#[]⟩, .slice (some ⟨b, 0, none⟩) 2 2]) :=
  RepD.shut (by omega) (by omega) (by omega) (by decide) (repS_heap (l := [datOne, datTwo]) (cs := [.int .i64 0, .int .i64 1, .int .i64 1, .string ⟨#[]⟩, .slice none 0 0, .int .i64 0, .int .i64 2, .int .i64 1, .string ⟨#[]⟩, .slice none 0 0]) rfl (by decide) hb
    ⟨_, _, _, _, _, _, rfl, rep_leaf 0 1 1 ⟨#[]⟩ (by omega) (by omega) (by omega) (by decide), _, _, _, _, _, [], rfl, rep_leaf 0 2 1 ⟨#[]⟩ (by omega) (by omega) (by omega) (by decide), rfl⟩)

set_option maxHeartbeats 4000000 in
set_option maxRecDepth 100000 in
theorem awake2_any (w : World) (hE : Env w) :
    Calls Tryd.prog 7 #[] w fun e w' => e = .returned (.bool true) ∧ Below w.heap.size w w' := by
  go_enter Tryd.func7, Tryd.ntmps7
  go_wp2_with fail
  obtain ⟨W1, hW1⟩ : ∃ W1, w.alloc (.cells #[.int .i64 0, .int .i64 1, .int .i64 1, .string ⟨#[]⟩, .slice none 0 0] 24) = W1 := ⟨_, rfl⟩
  have hB : Below w.heap.size w W1 := by rw [← hW1]; exact (Below.refl _ _).alloc (Nat.le_refl _) _
  have hbx : Box5 W1 w.heap.size 24 (.int .i64 0) (.int .i64 1) (.int .i64 1) (.string ⟨#[]⟩) (.slice none 0 0) := by rw [← hW1]; exact Box5.new w _ _ _ _ _ _
  rw [hW1]
  have HB := Lib.hid hB
  have HX := Lib.hid hbx
  clear hB hbx hW1
  refine wp_region_mono 8 (AwakeR w.heap.size) (fun A B => Below A.heap.size A B) (by kernel_rfl) (by show monoB _ 8 22 = true; kernel_rfl) (fun h k => Below.next h k) (Below.refl _ _) (awakeR_kept _) ?hops ?hend
  case hops =>
    intro i o hi ho a w1 hdf hsz hex hdep hrest
    obtain ⟨x0, x1, x2, x3, x4, x5, x6, x7, x8, x9, x10, x11, x12, x13, x14, x15, x16, x17, x18, x19, x20, x21, rfl⟩ := act_open hsz hdf
    match i, hi with
    | 0, _ =>
      obtain rfl : _ = o := Option.some.inj ho
      obtain rfl : x1 = .pointer (some ⟨w.heap.size, 0, none⟩) := hrest.at 1 (by kernel_rfl)
      have hb : Box5 w1 w.heap.size 24 (.int .i64 0) (.int .i64 1) (.int .i64 1) (.string ⟨#[]⟩) (.slice none 0 0) := (hex.block _ HX.out.lt).trans HX.out
      obtain ⟨q0, q1, q2, q3, q4⟩ := hb.cells
      go_wp2
      exact ⟨rfl, _, rfl, rfl, Below.refl _ _⟩
    | 1, _ =>
      obtain rfl : _ = o := Option.some.inj ho
      go_wp2
      exact ⟨rfl, _, rfl, rfl, Below.refl _ _⟩
    | 2, _ =>
      obtain rfl : _ = o := Option.some.inj ho
      go_wp2
      exact ⟨rfl, _, rfl, rfl, Below.refl _ _⟩
    | 3, _ =>
      obtain rfl : _ = o := Option.some.inj ho
      obtain rfl : x6 = _ := dep_at hdep 2 6 (by kernel_rfl)
      go_wp2
      exact ⟨rfl, _, rfl, ⟨_, rfl, World.alloc_heap_new _ _⟩, (Below.refl _ _).alloc (Nat.le_refl _) _⟩
    | 4, _ =>
      obtain rfl : _ = o := Option.some.inj ho
      obtain ⟨b, h7, hb⟩ : ∃ b, x7 = .slice (some ⟨b, 0, none⟩) 1 1 ∧ _ := dep_at hdep 3 7 (by kernel_rfl)
      subst h7
      go_wp2_with fail
      refine (listA_any _ _ hb).mono ?_
      rintro e' w2 ⟨v2, rfl, hr2, hb2⟩
      obtain ⟨k2, n2, d2, s2, o2, len2, cap2, rfl⟩ := agg_of hr2
      go_wp2
      exact ⟨rfl, _, rfl, ⟨k2, n2, d2, s2, o2, len2, cap2, rfl, hr2⟩, hb2⟩
    | 5, _ =>
      obtain rfl : _ = o := Option.some.inj ho
      obtain rfl : x4 = _ := dep_at hdep 0 4 (by kernel_rfl)
      obtain rfl : x5 = _ := dep_at hdep 1 5 (by kernel_rfl)
      obtain ⟨k2, n2, d2, s2, o2, len2, cap2, h8, hr2⟩ : ∃ (k n d : Int) (s : ByteArray) (o : Option Addr) (len cap : Nat), x8 = .agg #[.int .i64 k, .int .i64 n, .int .i64 d, .string s, .slice o len cap] ∧ _ := dep_at hdep 4 8 (by kernel_rfl)
      subst h8
      go_wp2
      exact ⟨rfl, _, rfl, ⟨_, _, _, _, _, _, rfl, World.alloc_heap_new _ _, repD_alloc _ hr2⟩, (Below.refl _ _).alloc (Nat.le_refl _) _⟩
    | 6, _ =>
      obtain rfl : _ = o := Option.some.inj ho
      obtain ⟨b, c0, c1, c2, c3, c4, h9, hb, hr⟩ : ∃ b c0 c1 c2 c3 c4, x9 = .slice (some ⟨b, 0, none⟩) 3 3 ∧ _ ∧ _ := dep_at hdep 5 9 (by kernel_rfl)
      subst h9
      go_wp2_with fail
      refine (listB_any _ _ c0 c1 c2 c3 c4 hb hr).mono ?_
      rintro e' w2 ⟨v2, rfl, hr2, hb2⟩
      obtain ⟨k2, n2, d2, s2, o2, len2, cap2, rfl⟩ := agg_of hr2
      go_wp2
      exact ⟨rfl, _, rfl, ⟨k2, n2, d2, s2, o2, len2, cap2, rfl, hr2⟩, hb2⟩
    | 7, _ =>
      obtain rfl : _ = o := Option.some.inj ho
      have hs1 := hex.size
      have hlt := HX.out.lt
      go_wp2
      exact ⟨rfl, _, rfl, ⟨_, rfl, (by have h1 : W1.heap.size ≤ w1.heap.size := hs1; omega), Box5.new _ _ _ _ _ _ _⟩, (Below.refl _ _).alloc (Nat.le_refl _) _⟩
  case hend =>
    intro a w1 hdf hsz hex hval hrest
    obtain ⟨x0, x1, x2, x3, x4, x5, x6, x7, x8, x9, x10, x11, x12, x13, x14, x15, x16, x17, x18, x19, x20, x21, rfl⟩ := act_open hsz hdf
    obtain rfl : x1 = .pointer (some ⟨w.heap.size, 0, none⟩) := hrest.at 1 (by kernel_rfl)
    obtain ⟨p, h2, hp, hbp⟩ : ∃ p, x2 = .pointer (some ⟨p, 0, none⟩) ∧ _ ∧ _ := hval 7 _ 2 (by omega) rfl rfl
    subst h2
    obtain ⟨k, n, d, s, o, len, cap, h10, hr⟩ : ∃ (k n d : Int) (s : ByteArray) (o : Option Addr) (len cap : Nat), x10 = .agg #[.int .i64 k, .int .i64 n, .int .i64 d, .string s, .slice o len cap] ∧ _ := hval 6 _ 10 (by omega) rfl rfl
    subst h10
    obtain rfl : x0 = .bool false := hrest.at 0 (by kernel_rfl)
    have hs1 := hex.size
    have hltH := HX.out.lt
    have hp0 : p ≠ w.heap.size := by omega
    have HR := Lib.hid (rep_written hbp (by decide) hr (.int .i64 k) (.int .i64 n) (.int .i64 d) (.string s) (.slice o len cap))
    obtain ⟨q0, q1, q2, q3, q4⟩ := hbp.cells
    obtain ⟨z0, z1, z2, z3, z4⟩ := hbp.free
    have HBP := Lib.hid hbp
    have HH1 := Lib.hid ((hex.block _ (show w.heap.size < W1.drew.heap.size from hltH)).trans (show W1.drew.heap[w.heap.size]? = _ from HX.out))
    have HB1 := Lib.hid (HB.out.drew.trans (hex.mono HB.out.size))
    clear hex hrest hval hr hbp hsz hdf
    simp only [List.drop_succ_cons, List.drop_zero]
    go_wp2_with fail
    have HB2 := Lib.hid (HB1.out.trans (set5_below w1 p w.heap.size (.int .i64 k) (.int .i64 n) (.int .i64 d) (.string s) (.slice o len cap) (by omega)))
    refine (dtext_any dat2 _ _ _ HR.out (Nat.le_refl _) (env_kept hE HB2.out) (fun _ => right2)).mono ?_
    rw [full2]
    rintro e' w2 ⟨rfl, hb2⟩
    have hh2 : Box5 w2 w.heap.size 24 (.int .i64 0) (.int .i64 1) (.int .i64 1) (.string ⟨#[]⟩) (.slice none 0 0) := (hb2.block _ (by rw [set5_size]; exact (Array.getElem?_eq_some_iff.1 HH1.out).1)).trans ((set5_heap _ _ _ _ _ _ _ (Ne.symm hp0)).trans HH1.out)
    obtain ⟨r0, r1, r2, r3, r4⟩ := hh2.cells
    have HB3 := Lib.hid (HB2.out.trans (hb2.mono HB2.out.size))
    have hs2 := HB3.out.size
    clear hb2 hh2 q0 q1 q2 q3 q4 z0 z1 z2 z3 z4
    go_wp2_with fail
    have HB4 := Lib.hid (HB3.out.alloc hs2 (.cells #[.int .i64 0, .int .i64 1, .int .i64 1, .string ⟨#[]⟩, .slice none 0 0, .int .i64 0, .int .i64 2, .int .i64 1, .string ⟨#[]⟩, .slice none 0 0] 24))
    refine (dtext_any dat3 _ _ _ (rep3 (World.alloc_heap_new _ _)) (Nat.le_refl _) (env_kept hE HB4.out) (fun _ => right3)).mono ?_
    rw [full3]
    rintro e' w3 ⟨rfl, hb3⟩
    go_wp2
    go_ret
    exact ⟨rfl, HB4.out.trans (hb3.mono HB4.out.size)⟩
end Go.Proofs.YtlpkpkcfgchngaaDoor

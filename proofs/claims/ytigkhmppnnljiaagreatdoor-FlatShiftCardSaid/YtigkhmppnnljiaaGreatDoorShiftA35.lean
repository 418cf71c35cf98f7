/-
  What the proofs lean on: MkR.
-/
import Derived.Deep.RegionLaw
import Derived.Deep.AppendLies
import Derived.Test.YtigkhmppnnljiaaGreatDoorShiftA16
import Derived.Test.YtigkhmppnnljiaaGreatDoorShiftA20
import Derived.Test.YtigkhmppnnljiaaGreatDoorShiftA23
import Derived.Test.YtigkhmppnnljiaaGreatDoorShiftA34
namespace Go.Proofs.YtigkhmppnnljiaaGreatDoor
open Go Go.RowKit Mk

/-- What the loop of Make keeps. -/
def MuI (ps : List Proc) (cons : List Dat) (nC H b4 : Nat) (cv crow : Value) (xc : List Value) (w : World) (j : Nat) (wr : World) : Prop :=
  ∃ v xs, Below H w wr ∧ BoxL wr (H + 1) 25 [.slice none 0 0, .slice none 0 0] ∧ BoxL wr b4 25 [cv, v] ∧ (∃ o l c, v = .slice o l c) ∧ wr.ownsRow (H + 2) 31 5 v j xs ∧
    CellsG 5 (ProcN wr (fun b => b = b4 ∨ b = H + 1 ∨ v.ownBlock = some b)) (ps.take j) xs ∧ (∃ U B, Sub (fun b => b = b4 ∨ b = H + 1 ∨ v.ownBlock = some b) U wr ∧ B ≤ wr.heap.size ∧ RepS U B cons cv) ∧ wr.ownsRow (H + 2) 50 6 crow nC xc
theorem muI_step {ps : List Proc} {cons : List Dat} {nC H b4 j g c : Nat} {cv crow v sl : Value} {xc : List Value} {w wr W1 W6 w7 : World} {p : Proc} {xs : List Value} (hb : Below H w wr) (hbr : BoxL wr (H + 1) 25 [.slice none 0 0, .slice none 0 0]) (hbx : BoxL wr b4 25 [cv, v])
    (hown : wr.ownsRow (H + 2) 31 5 v j xs) (hcs : CellsG 5 (ProcN wr (fun b => b = b4 ∨ b = H + 1 ∨ v.ownBlock = some b)) (ps.take j) xs) (hcons : ∃ U B, Sub (fun b => b = b4 ∨ b = H + 1 ∨ v.ownBlock = some b) U wr ∧ B ≤ wr.heap.size ∧ RepS U B cons cv) (hrow : wr.ownsRow (H + 2) 50 6 crow nC xc) (hH4 : H + 1 < b4)
    (hpj : ps[j]? = some p) (h1 : Below wr.heap.size wr W1) (h6 : Below W1.heap.size W1 W6) (hgr : W6.grownBy w7 v.ownBlock) (hsl : ∃ U B, Sub (fun b => b < wr.heap.size) U W1 ∧ B ≤ W1.heap.size ∧ SlC U B 5 (InsR U B) p.code sl)
    (hargs : -9223372036854775808 ≤ p.args ∧ p.args ≤ 9223372036854775807) (hregs : -9223372036854775808 ≤ p.regs ∧ p.regs ≤ 9223372036854775807) (hal : p.alive = [])
    (hown7 : w7.ownsRow (H + 2) 31 5 (.slice (some ⟨g, 0, none⟩) (j + 1) c) (j + 1) (xs ++ [.int .i64 p.args, .bool p.rest, .int .i64 p.regs, sl, .slice none 0 0])) (hgo : v.ownBlock = some g ∨ W6.heap.size ≤ g) :
    BoxL w7 b4 25 [cv, v] ∧ MuI ps cons nC H b4 cv crow xc w (j + 1) (w7.setCell ⟨b4, 1, none⟩ (.slice (some ⟨g, 0, none⟩) (j + 1) c)) := by
  have h16 : Below wr.heap.size wr W6 := Below.next h1 h6
  have hlt := hown.lt
  have hz1 := h1.size
  have hz6 := h6.size
  have hz7 := hgr.size
  have hHr := hbr.lt
  have hb4l := hbx.lt
  have boxes : ∀ {b : Nat} {cs : List Value}, BoxL wr b 25 cs → BoxL w7 b 25 cs := fun {b cs} h => by
    refine (hgr.block b (by have := h.lt; omega) (fun e => ?_)).trans (h.keep h16)
    obtain ⟨cs', f, hc⟩ := own_row hown b e.symm
    rw [show wr.heap[b]? = _ from h] at hc
    simp at hc
  have hsub : ∀ U, Sub (fun b => b = b4 ∨ b = H + 1 ∨ v.ownBlock = some b) U wr → Sub (fun b => b = b4 ∨ b = H + 1 ∨ (Value.slice (some ⟨g, 0, none⟩) (j + 1) c).ownBlock = some b) U (w7.setCell ⟨b4, 1, none⟩ (.slice (some ⟨g, 0, none⟩) (j + 1) c)) := fun U hU => by
    refine ((hU.below h16).step hz7 (fun b hl hn => hgr.block b hl (fun e => hn (.inr (.inr e.symm)))) (fun b hl hS => ?_)).set ⟨b4, 1, none⟩ _ (.inl rfl)
    rcases hS with h | h | h
    · exact .inl h
    · exact .inr (.inl h)
    · simp only [Value.ownBlock, Option.some.injEq] at h
      subst h
      rcases hgo with h | h
      · exact .inr (.inr h)
      · omega
  refine ⟨boxes hbx, .slice (some ⟨g, 0, none⟩) (j + 1) c, xs ++ [.int .i64 p.args, .bool p.rest, .int .i64 p.regs, sl, .slice none 0 0], ?_, ?_, (boxes hbx).set 1 _, ⟨_, _, _, rfl⟩, ?_, ?_, ?_, ?_⟩
  · refine Below.setCell (p := ⟨b4, 1, none⟩) ?_ (by dsimp only; omega) _
    refine (hb.trans (h16.mono (by omega))).grown hgr (by omega) (fun k e => ?_)
    have := (hlt k e).1
    omega
  · exact (boxes hbr).other _ _ (by dsimp only; omega)
  · refine ownsRow_set hown7 _ _ (fun r hr e => ?_)
    obtain ⟨cs', f, hc⟩ := own_row hown7 r hr
    have e : r = b4 := e
    rw [e, show w7.heap[b4]? = _ from boxes hbx] at hc
    simp at hc
  · rw [List.take_add_one, hpj]
    refine CellsG.snoc (size := 5) rfl ?_ (hcs.mono fun x _ cs h => h.to hsub (by rw [World.size_setCell]; omega))
    obtain ⟨U, B, g1, g2, g3⟩ := hsl
    refine ⟨U, B, sl, ((g1.below h6).step (S' := fun b => b = b4 ∨ b = H + 1 ∨ (Value.slice (some ⟨g, 0, none⟩) (j + 1) c).ownBlock = some b) hz7 (fun b hl hn => hgr.block b hl (fun e => hn ?_)) (fun b hl hS => ?_)).set ⟨b4, 1, none⟩ _ (.inl rfl), by rw [World.size_setCell]; omega, rfl, hargs, hregs, g3, hal⟩
    · have := (hlt b e.symm).2
      omega
    · rcases hS with h | h | h
      · show b < wr.heap.size
        omega
      · show b < wr.heap.size
        omega
      · simp only [Value.ownBlock, Option.some.injEq] at h
        subst h
        rcases hgo with h | h
        · exact (hlt _ h).2
        · omega
  · obtain ⟨U, B, g1, g2, g3⟩ := hcons
    exact ⟨U, B, hsub U g1, by rw [World.size_setCell]; omega, g3⟩
  · refine ownsRow_set (row_same hrow (fun r hr => ?_)) _ _ (fun r hr e => ?_)
    · refine (hgr.block r (by have := ownBlock_lt hrow hr; omega) (fun e => ?_)).trans (h16.block r (ownBlock_lt hrow hr))
      obtain ⟨cs', f, hc⟩ := own_row hrow r hr
      obtain ⟨ds', f', hd⟩ := own_row hown r e.symm
      rw [hc] at hd
      simp at hd
    · obtain ⟨cs', f, hc⟩ := own_row hrow r hr
      have e : r = b4 := e
      rw [e, show wr.heap[b4]? = _ from hbx] at hc
      simp at hc
theorem row_cells {W : World} {base g n size cap i : Nat} {e : TypeId} {xs : List Value} {u : Value} (h : W.ownsRow base e size (.slice (some ⟨g, 0, none⟩) n cap) n xs) (hu : xs[i]? = some u) : W.cell? ⟨g, i, none⟩ = some u := by
  rcases h.2 with ⟨h0, _⟩ | ⟨g', cap', cur, he, _, hg, _, _, _, htk⟩
  · cases h0
  · simp only [Value.slice.injEq, Option.some.injEq, Addr.mk.injEq, and_true, true_and] at he
    obtain ⟨rfl, rfl⟩ := he
    have hb : BoxL W g e cur.toList := hg
    refine hb.cell i ?_
    rw [← htk, List.getElem?_take] at hu
    split at hu
    · exact hu
    · cases hu
/-- What lies below stays, if all that was and all that comes is above. -/
theorem cod_up {W5 w6 w7 : World} {B : Nat} (h6 : Below W5.heap.size W5 w6) (h7 : Below W5.heap.size W5 w7) (hB : B ≤ W5.heap.size) (hs : w6.heap.size ≤ w7.heap.size) : Below B w6 w7 := ⟨h7.os.trans h6.os.symm, h7.tape.trans h6.tape.symm, h7.output.trans h6.output.symm, hs, fun b hb => (h7.block b (by omega)).trans (h6.block b (by omega)).symm⟩
/-- What proc leaves reads beside what was there. -/
theorem procR_low {W : World} {H H' : Nat} {p : Proc} {a r g o8 x : Value} (h : ProcR (Go.Proofs.YtigkhmppnnljiaaGreatDoor.gap W 0 H) W.heap.size p [a, r, g, o8, x]) (hH : H' ≤ H) : ∃ U B, Sub (fun b => b < H') U W ∧ B ≤ W.heap.size ∧ SlC U B 5 (InsR U B) p.code o8 := by
  obtain ⟨sl, al, he, _, _, hs, _⟩ := h
  simp only [List.cons.injEq, and_true] at he
  obtain ⟨rfl, rfl, rfl, rfl, rfl⟩ := he
  exact ⟨_, _, Sub.of_gap (fun b hb => Nat.lt_of_lt_of_le hb hH), Nat.le_refl _, hs⟩
theorem procR_args {W : World} {B : Nat} {p : Proc} {cs : List Value} (h : ProcR W B p cs) : (-9223372036854775808 ≤ p.args ∧ p.args ≤ 9223372036854775807) ∧ (-9223372036854775808 ≤ p.regs ∧ p.regs ≤ 9223372036854775807) := by
  obtain ⟨sl, al, _, h1, h2, _⟩ := h
  exact ⟨h1, h2⟩
theorem box_cells {W : World} {b : Nat} {t : TypeId} {cs : List Value} (h : BoxL W b t cs) : ∀ (j : Nat) (u : Value), cs[j]? = some u → W.cell? ((⟨b, 0, none⟩ : Addr).add j) = some u := fun j u hj => by
  rw [add_none rfl]
  simpa using h.cell j hj
/-- The codes of a module, its body's the last. -/
def Mdl.cods (m : Mdl) : List Cod := m.codes ++ [⟨[], false, m.body⟩]
theorem cods_wf {m : Mdl} (h : m.okB = true) : ∀ c ∈ m.cods, ∃ nc nk fr sc, Trm.wf nc nk fr c.body sc = true := fun c hc => by
  rw [Mdl.okB] at h
  simp only [Bool.and_eq_true] at h
  obtain ⟨_, ⟨h1, h2⟩, h3⟩ := h
  rcases List.mem_append.1 hc with hc | hc
  · exact ⟨_, _, _, _, (Mdl.codes_each h3 c hc).1⟩
  · rw [List.mem_singleton.1 hc]
    exact ⟨_, _, _, _, h1⟩
theorem codes_short {nc nk : Int} : ∀ {l : List Cod} {B : Int → Bool}, Mdl.codesB nc nk l B = true → ∀ c ∈ l, c.v.length ≤ 1000001
  | [], _, _, c, h => by simp at h
  | x :: l, B, h, c, hc => by
    rw [Mdl.codesB] at h
    simp only [Bool.and_eq_true] at h
    obtain ⟨h1, h2, h3, h4⟩ := h
    rcases List.mem_cons.1 hc with rfl | hc
    · have := Trm.newB_short h2
      rw [List.length_append] at this
      omega
    · exact codes_short h4 c hc
theorem cods_short {m : Mdl} (h : m.okB = true) : ∀ c ∈ m.cods, c.v.length ≤ 1000001 := fun c hc => by
  rw [Mdl.okB] at h
  simp only [Bool.and_eq_true] at h
  rcases List.mem_append.1 hc with hc | hc
  · exact codes_short h.2.2 c hc
  · rw [List.mem_singleton.1 hc]
    simp
theorem unit_cods (m : Mdl) : (m.unit Mk.lkL).procs = m.cods.map (Mk.proc Mk.lkL) := by simp [Mdl.unit, Mdl.cods]

theorem act_open41 {a : Act} (h : a.tmps.size = 41) (hd : a.defers = []) : ∃ x0 x1 x2 x3 x4 x5 x6 x7 x8 x9 x10 x11 x12 x13 x14 x15 x16 x17 x18 x19 x20 x21 x22 x23 x24 x25 x26 x27 x28 x29 x30 x31 x32 x33 x34 x35 x36 x37 x38 x39 x40, a = { tmps := #[x0, x1, x2, x3, x4, x5, x6, x7, x8, x9, x10, x11, x12, x13, x14, x15, x16, x17, x18, x19, x20, x21, x22, x23, x24, x25, x26, x27, x28, x29, x30, x31, x32, x33, x34, x35, x36, x37, x38, x39, x40], defers := [] } := by
  obtain ⟨⟨l⟩, d⟩ := a
  simp only at hd
  subst hd
  replace h : l.length = 41 := h
  obtain ⟨x0, l, rfl⟩ := List.exists_cons_of_length_eq_add_one h
  replace h : l.length = 40 := Nat.succ.inj h
  obtain ⟨x1, l, rfl⟩ := List.exists_cons_of_length_eq_add_one h
  replace h : l.length = 39 := Nat.succ.inj h
  obtain ⟨x2, l, rfl⟩ := List.exists_cons_of_length_eq_add_one h
  replace h : l.length = 38 := Nat.succ.inj h
  obtain ⟨x3, l, rfl⟩ := List.exists_cons_of_length_eq_add_one h
  replace h : l.length = 37 := Nat.succ.inj h
  obtain ⟨x4, l, rfl⟩ := List.exists_cons_of_length_eq_add_one h
  replace h : l.length = 36 := Nat.succ.inj h
  obtain ⟨x5, l, rfl⟩ := List.exists_cons_of_length_eq_add_one h
  replace h : l.length = 35 := Nat.succ.inj h
  obtain ⟨x6, l, rfl⟩ := List.exists_cons_of_length_eq_add_one h
  replace h : l.length = 34 := Nat.succ.inj h
  obtain ⟨x7, l, rfl⟩ := List.exists_cons_of_length_eq_add_one h
  replace h : l.length = 33 := Nat.succ.inj h
  obtain ⟨x8, l, rfl⟩ := List.exists_cons_of_length_eq_add_one h
  replace h : l.length = 32 := Nat.succ.inj h
  obtain ⟨x9, l, rfl⟩ := List.exists_cons_of_length_eq_add_one h
  replace h : l.length = 31 := Nat.succ.inj h
  obtain ⟨x10, l, rfl⟩ := List.exists_cons_of_length_eq_add_one h
  replace h : l.length = 30 := Nat.succ.inj h
  obtain ⟨x11, l, rfl⟩ := List.exists_cons_of_length_eq_add_one h
  replace h : l.length = 29 := Nat.succ.inj h
  obtain ⟨x12, l, rfl⟩ := List.exists_cons_of_length_eq_add_one h
  replace h : l.length = 28 := Nat.succ.inj h
  obtain ⟨x13, l, rfl⟩ := List.exists_cons_of_length_eq_add_one h
  replace h : l.length = 27 := Nat.succ.inj h
  obtain ⟨x14, l, rfl⟩ := List.exists_cons_of_length_eq_add_one h
  replace h : l.length = 26 := Nat.succ.inj h
  obtain ⟨x15, l, rfl⟩ := List.exists_cons_of_length_eq_add_one h
  replace h : l.length = 25 := Nat.succ.inj h
  obtain ⟨x16, l, rfl⟩ := List.exists_cons_of_length_eq_add_one h
  replace h : l.length = 24 := Nat.succ.inj h
  obtain ⟨x17, l, rfl⟩ := List.exists_cons_of_length_eq_add_one h
  replace h : l.length = 23 := Nat.succ.inj h
  obtain ⟨x18, l, rfl⟩ := List.exists_cons_of_length_eq_add_one h
  replace h : l.length = 22 := Nat.succ.inj h
  obtain ⟨x19, l, rfl⟩ := List.exists_cons_of_length_eq_add_one h
  replace h : l.length = 21 := Nat.succ.inj h
  obtain ⟨x20, l, rfl⟩ := List.exists_cons_of_length_eq_add_one h
  replace h : l.length = 20 := Nat.succ.inj h
  obtain ⟨x21, l, rfl⟩ := List.exists_cons_of_length_eq_add_one h
  replace h : l.length = 19 := Nat.succ.inj h
  obtain ⟨x22, l, rfl⟩ := List.exists_cons_of_length_eq_add_one h
  replace h : l.length = 18 := Nat.succ.inj h
  obtain ⟨x23, l, rfl⟩ := List.exists_cons_of_length_eq_add_one h
  replace h : l.length = 17 := Nat.succ.inj h
  obtain ⟨x24, l, rfl⟩ := List.exists_cons_of_length_eq_add_one h
  replace h : l.length = 16 := Nat.succ.inj h
  obtain ⟨x25, l, rfl⟩ := List.exists_cons_of_length_eq_add_one h
  replace h : l.length = 15 := Nat.succ.inj h
  obtain ⟨x26, l, rfl⟩ := List.exists_cons_of_length_eq_add_one h
  replace h : l.length = 14 := Nat.succ.inj h
  obtain ⟨x27, l, rfl⟩ := List.exists_cons_of_length_eq_add_one h
  replace h : l.length = 13 := Nat.succ.inj h
  obtain ⟨x28, l, rfl⟩ := List.exists_cons_of_length_eq_add_one h
  replace h : l.length = 12 := Nat.succ.inj h
  obtain ⟨x29, l, rfl⟩ := List.exists_cons_of_length_eq_add_one h
  replace h : l.length = 11 := Nat.succ.inj h
  obtain ⟨x30, l, rfl⟩ := List.exists_cons_of_length_eq_add_one h
  replace h : l.length = 10 := Nat.succ.inj h
  obtain ⟨x31, l, rfl⟩ := List.exists_cons_of_length_eq_add_one h
  replace h : l.length = 9 := Nat.succ.inj h
  obtain ⟨x32, l, rfl⟩ := List.exists_cons_of_length_eq_add_one h
  replace h : l.length = 8 := Nat.succ.inj h
  obtain ⟨x33, l, rfl⟩ := List.exists_cons_of_length_eq_add_one h
  replace h : l.length = 7 := Nat.succ.inj h
  obtain ⟨x34, l, rfl⟩ := List.exists_cons_of_length_eq_add_one h
  replace h : l.length = 6 := Nat.succ.inj h
  obtain ⟨x35, l, rfl⟩ := List.exists_cons_of_length_eq_add_one h
  replace h : l.length = 5 := Nat.succ.inj h
  obtain ⟨x36, l, rfl⟩ := List.exists_cons_of_length_eq_add_one h
  replace h : l.length = 4 := Nat.succ.inj h
  obtain ⟨x37, l, rfl⟩ := List.exists_cons_of_length_eq_add_one h
  replace h : l.length = 3 := Nat.succ.inj h
  obtain ⟨x38, l, rfl⟩ := List.exists_cons_of_length_eq_add_one h
  replace h : l.length = 2 := Nat.succ.inj h
  obtain ⟨x39, l, rfl⟩ := List.exists_cons_of_length_eq_add_one h
  replace h : l.length = 1 := Nat.succ.inj h
  obtain ⟨x40, l, rfl⟩ := List.exists_cons_of_length_eq_add_one h
  replace h : l.length = 0 := Nat.succ.inj h
  obtain rfl := List.eq_nil_of_length_eq_zero h
  exact ⟨x0, x1, x2, x3, x4, x5, x6, x7, x8, x9, x10, x11, x12, x13, x14, x15, x16, x17, x18, x19, x20, x21, x22, x23, x24, x25, x26, x27, x28, x29, x30, x31, x32, x33, x34, x35, x36, x37, x38, x39, x40, rfl⟩
theorem bs_code (w : World) (x y : Int) (b : Bool) (o o1 o2 : Option Addr) (l c l1 c1 l2 c2 : Nat) : (Instr.buildSlice 38 1 #[(0, .agg #[.slice o l c, .bool b, .int .i64 x, .int .i64 y, .slice o1 l1 c1, .slice o2 l2 c2])]).run Tryz.prog w = .ok (.slice (some ⟨w.heap.size, 0, none⟩) 1 1) (w.alloc (.cells #[.slice o l c, .bool b, .int .i64 x, .int .i64 y, .slice o1 l1 c1, .slice o2 l2 c2] 50)) := by go_simp
/-- What each operation makes ahead of Make's loop. -/
def MuR (H G B nC : Nat) (sv : Value) (cods : List Cod) (ag : Value) (cs : List Value) (i : Nat) (v : Value) (W : World) : Prop := match i with
  | 0 => v = .pointer (some ⟨H, 1, none⟩)
  | 1 => v = sv
  | 2 => B ≤ W.heap.size ∧ ∃ o l c xc, v = .slice o l c ∧ W.ownsRow G 50 6 (.slice o l c) nC xc ∧ CellsG 6 (CodR W B) cods xc
  | 3 => v = .pointer (some ⟨H, 2, none⟩)
  | 4 => v = ag
  | 5 => v = .agg cs.toArray
  | 6 => ∃ b, v = .slice (some ⟨b, 0, none⟩) 1 1 ∧ BoxL W b 50 cs
  | 7 => B ≤ W.heap.size ∧ ∃ g cap xc, v = .slice (some ⟨g, 0, none⟩) (nC + 1) cap ∧ W.ownsRow G 50 6 (.slice (some ⟨g, 0, none⟩) (nC + 1) cap) (nC + 1) (xc ++ cs) ∧ CellsG 6 (CodR W B) cods xc
  | 8 => v = .int .i64 ((nC : Int) + 1)
  | _ => v = .int .i64 0
theorem muR_kept (H G B nC : Nat) (sv : Value) (cods : List Cod) (ag : Value) (cs : List Value) : ∀ i v A C, i ≤ 7 → MuR H G B nC sv cods ag cs i v A → Below A.heap.size A C → MuR H G B nC sv cods ag cs i v C := by
  intro i v A C hi h hb
  match i, hi, h with
  | 0, _, h => exact h
  | 1, _, h => exact h
  | 2, _, ⟨h0, o, l, c, xc, h1, h2, h3⟩ => exact ⟨Nat.le_trans h0 hb.size, o, l, c, xc, h1, ownsRow_keep h2 hb, h3.mono fun _ _ _ h => CodR.kept h (hb.mono h0)⟩
  | 3, _, h => exact h
  | 4, _, h => exact h
  | 5, _, h => exact h
  | 6, _, ⟨b, h1, h2⟩ => exact ⟨b, h1, h2.keep hb⟩
  | 7, _, ⟨h0, g, cap, xc, h1, h2, h3⟩ => exact ⟨Nat.le_trans h0 hb.size, g, cap, xc, h1, ownsRow_keep h2 hb, h3.mono fun _ _ _ h => CodR.kept h (hb.mono h0)⟩
theorem muR_const (H G B nC : Nat) (sv : Value) (cods : List Cod) (ag : Value) (cs : List Value) : ∀ i v A C, i ≠ 7 → (i == 2 || i == 6) = false → MuR H G B nC sv cods ag cs i v A → MuR H G B nC sv cods ag cs i v C := by
  intro i v A C hi hu h
  match i, hi, hu, h with
  | 0, _, _, h => exact h
  | 1, _, _, h => exact h
  | 3, _, _, h => exact h
  | 4, _, _, h => exact h
  | 5, _, _, h => exact h
  | 8, _, _, h => exact h
  | i + 9, _, _, h => exact h

set_option maxHeartbeats 8000000 in
set_option maxRecDepth 100000 in
theorem fmake_any (m : Mdl) (v : Value) (B : Nat) (w : World) (hv : MdlR w B m v) (hB : B ≤ w.heap.size) (hn : m.consts.length ≤ 1000000 ∧ m.codes.length ≤ 1000) (hsz : ∀ c ∈ m.cods, 6 * c.body.all ≤ 800000)
    (HCM : ∀ w', Below w.heap.size w w' → Calls Tryz.prog 38 #[v] w' fun e w'' => e = .returned (.int .i64 (if m.okB then 0 else 5)) ∧ Below w'.heap.size w' w'') :
    Calls Tryz.prog 15 #[v] w fun e w' => ∃ c p, e = .returned (.tuple #[.agg #[c, p], .int .i64 (m.makeErr Mk.lkL)]) ∧ UntR w' w'.heap.size (m.makeU Mk.lkL) (.agg #[c, p]) ∧ Below w.heap.size w w' := by
  obtain ⟨cc, pp, b0, b1, b2, b3, rfl, hcon, hcod, hbody⟩ := hv
  obtain ⟨q, r, u, q', r', u', rfl, rfl, rfl, rfl, hbn⟩ := TrmR.shape hbody
  obtain ⟨oc, lc, cc', rfl⟩ : ∃ o l c, cc = .slice o l c := by obtain ⟨o, l, c, h, _⟩ := hcon; exact ⟨o, l, c, h⟩
  obtain ⟨op, lp, cp, rfl⟩ := hcod.form
  obtain ⟨W2, hW2⟩ : ∃ W2, (w.alloc (.cells #[.slice oc lc cc', .slice op lp cp, .int .i64 m.body.op, .int .i64 m.body.n, .slice q r u, .slice q' r' u'] 43)).alloc (.cells #[.slice none 0 0, .slice none 0 0] 25) = W2 := ⟨_, rfl⟩
  have HB2 := Lib.hid (show Below w.heap.size w W2 from by rw [← hW2]; exact (Below.one w _).trans ((Below.one _ _).mono (by simp)))
  have HM2 := Lib.hid (show BoxL W2 w.heap.size 43 [.slice oc lc cc', .slice op lp cp, .int .i64 m.body.op, .int .i64 m.body.n, .slice q r u, .slice q' r' u'] from by rw [← hW2]; exact (BoxL.new rfl _ _).alloc _)
  have HR2 := Lib.hid (show BoxL W2 (w.heap.size + 1) 25 [.slice none 0 0, .slice none 0 0] from by rw [← hW2]; exact BoxL.new (by simp) _ _)
  have HW2 := Lib.hid hW2
  have HCON := Lib.hid hcon
  have HCOD := Lib.hid hcod
  have HBODY := Lib.hid hbody
  have HCK := Lib.hid (HCM W2 HB2.out)
  have HSZ := Lib.hid hsz
  clear hW2 hcon hcod hbody hbn HCM hsz
  go_enter Tryz.func15, Tryz.ntmps15
  go_upto_region 1 with fail
  rw [HW2.out]
  have m0 := HM2.out.cell 0 rfl
  have m1 := HM2.out.cell 1 rfl
  have m2 := HM2.out.cell 2 rfl
  have m3 := HM2.out.cell 3 rfl
  have m4 := HM2.out.cell 4 rfl
  have m5 := HM2.out.cell 5 rfl
  have ml := HM2.out.lt
  go_wp2_with fail
  with_reducible refine HCK.out.mono ?_
  rintro e w3 ⟨rfl, hb3⟩
  have HB3 := Lib.hid (HB2.out.trans (hb3.mono HB2.out.size))
  have HM3 := Lib.hid (HM2.out.keep hb3)
  have HR3 := Lib.hid (HR2.out.keep hb3)
  clear hb3 m0 m1 m2 m3 m4 m5 ml HCK
  cases hok : m.okB with
  | false =>
    have he : m.makeErr Mk.lkL = 5 := by simp [Mdl.makeErr, hok]
    have hu : m.makeU Mk.lkL = ⟨[], []⟩ := by simp [Mdl.makeU, hok]
    have HE := Lib.hid he
    have HU := Lib.hid hu
    have r0 := HR3.out.cell 0 rfl
    have r1 := HR3.out.cell 1 rfl
    have z0 := HR3.out.free 0
    have z1 := HR3.out.free 1
    have rl := HR3.out.lt
    have bN := (HR3.out.set 0 (.slice none 0 0)).set 1 (.slice none 0 0)
    have n0 := bN.cell 0 rfl
    have n1 := bN.cell 1 rfl
    have HBF := Lib.hid ((HB3.out.setCell (p := ⟨w.heap.size + 1, 0, none⟩) (by dsimp only; omega) (.slice none 0 0)).setCell (p := ⟨w.heap.size + 1, 1, none⟩) (by dsimp only; omega) (.slice none 0 0))
    clear he hu bN
    simp only [Bool.false_eq_true, if_false]
    go_wp2_with fail
    refine bodyPost_ret (v := .tuple #[.agg #[.slice none 0 0, .slice none 0 0], .int .i64 5]) (by simp [results, Tryz.results15, go_sem, n0, n1]) rfl ⟨.slice none 0 0, .slice none 0 0, by rw [HE.out], ?_, HBF.out⟩
    rw [HU.out]
    exact ⟨_, _, rfl, ⟨none, 0, 0, rfl, rfl, Nat.le_refl _, by omega, rfl, rfl⟩, ⟨none, 0, 0, rfl, rfl, Nat.le_refl _, by omega, rfl, rfl⟩⟩
  | true =>
    simp only [if_true]
    have HOK := Lib.hid hok
    clear hok
    have m0 := HM3.out.cell 0 rfl
    have ml := HM3.out.lt
    have HCLD := Lib.hid (cloneD_any m.consts (.slice oc lc cc') B w3 (HCON.out.kept (HB3.out.mono hB)) (by have := HB3.out.size; omega) hn.1)
    go_wp2_with fail
    with_reducible refine HCLD.out.mono ?_
    rintro e w4 ⟨cv, rfl, hcv, ⟨ov, lv, cv2, rfl⟩, hb4⟩
    have HCV := Lib.hid hcv
    have HB4 := Lib.hid hb4
    clear hcv hb4 HCLD m0 ml
    obtain ⟨W5, hW5⟩ : ∃ W5, w4.alloc (.cells #[.slice ov lv cv2, .slice none 0 0] 25) = W5 := ⟨_, rfl⟩
    have HB35 := Lib.hid (show Below w3.heap.size w3 W5 from by rw [← hW5]; exact Below.next HB4.out (Below.one w4 _))
    have HB5 := Lib.hid (show Below w.heap.size w W5 from HB3.out.trans (HB35.out.mono HB3.out.size))
    have HM5 := Lib.hid (HM3.out.keep HB35.out)
    have HR5 := Lib.hid (HR3.out.keep HB35.out)
    have HU5 := Lib.hid (show BoxL W5 w4.heap.size 25 [.slice ov lv cv2, .slice none 0 0] from by rw [← hW5]; exact BoxL.new rfl _ _)
    have HS5 := Lib.hid (show W5.heap.size = w4.heap.size + 1 from by rw [← hW5]; simp)
    have HW5 := Lib.hid hW5
    clear hW5
    go_upto_region 4 with fail
    rw [HW5.out]
    have HBW := Lib.hid (show B ≤ W5.heap.size from by have := HB5.out.size; omega)
    have HLP := Lib.hid (show lp = m.codes.length from HCOD.out.lens.1)
    obtain ⟨nC, hnC⟩ : ∃ nC, m.codes.length = nC := ⟨_, rfl⟩
    have HNC := Lib.hid hnC
    have hn2 : nC ≤ 1000 := by omega
    have HCL := Lib.hid (show ∀ W', Below W5.heap.size W5 W' → Calls Tryz.prog 40 #[.slice op lp cp] W' fun e w'' => ∃ o l c xc, e = .returned (.slice o l c) ∧ w''.ownsRow W5.heap.size 50 6 (.slice o l c) nC xc ∧ CellsG 6 (CodR w'' B) m.codes xc ∧ Below W'.heap.size W' w'' ∧ Below W5.heap.size W5 w'' from fun W' hb => by
      have hcod : SlC W' B 6 (CodR W' B) m.codes (.slice op lp cp) := HCOD.out.kept ((HB5.out.mono hB).trans (hb.mono (by have := HB5.out.size; omega))) fun _ _ _ h => CodR.kept h ((HB5.out.mono hB).trans (hb.mono (by have := HB5.out.size; omega)))
      refine (cloneC_any m.codes _ B W' hcod (by have := HB5.out.size; have := hb.size; omega) (by omega)).mono ?_
      rintro e w'' ⟨v', xs, rfl, h1, h2, ⟨o, l, c, rfl⟩, h3⟩
      refine ⟨o, l, c, xs, rfl, ?_, h2.mono fun _ _ _ h => CodR.kept h (h3.mono (by have := HB5.out.size; have := hb.size; omega)), h3, Below.next hb h3⟩
      rw [← hnC]
      exact ownsRow_base h1 hb.size)
    have HD1 := Lib.hid (Below.drew (Below.refl W5.heap.size W5))
    have HD2 := Lib.hid (show Below W5.heap.size W5 (W5.alloc (.cells #[.slice none 0 0, .bool false, .int .i64 m.body.op, .int .i64 m.body.n, .slice q r u, .slice q' r' u'] 50)).drew from (Below.one W5 _).drew)
    have m1 := HM5.out.cell 1 rfl
    have m2 := HM5.out.cell 2 rfl
    have m3 := HM5.out.cell 3 rfl
    have m4 := HM5.out.cell 4 rfl
    have m5 := HM5.out.cell 5 rfl
    have ml := HM5.out.lt
    obtain ⟨i0, hi, hz0, hz1, hz2⟩ := info_parts info_code
    clear hnC
    go_cut [22, 23, 24] from 15 to 24 (fun a b c wx => ∃ (g cap : Nat) (xc : List Value), a = .slice (some ⟨g, 0, none⟩) (nC + 1) cap ∧ b = .int .i64 ((nC : Int) + 1) ∧ c = .int .i64 0 ∧ Hid (wx.ownsRow W5.heap.size 50 6 (.slice (some ⟨g, 0, none⟩) (nC + 1) cap) (nC + 1) (xc ++ [.slice none 0 0, .bool false, .int .i64 m.body.op, .int .i64 m.body.n, .slice q r u, .slice q' r' u'])) ∧ Hid (CellsG 6 (CodR wx B) m.codes xc) ∧ Hid (Below W5.heap.size W5 wx))
    case first => as_aux_lemma =>
      refine wp_region_turn 7 (fun i => i == 2 || i == 6) (MuR w.heap.size W5.heap.size B nC (.slice op lp cp) m.codes (.agg #[.int .i64 m.body.op, .int .i64 m.body.n, .slice q r u, .slice q' r' u']) [.slice none 0 0, .bool false, .int .i64 m.body.op, .int .i64 m.body.n, .slice q r u, .slice q' r' u']) (fun A C => Below W5.heap.size A C) (fun A C => Below A.heap.size A C) (by kernel_rfl) (by show turnB _ 41 7 _ = true; kernel_rfl) (fun h k => h.trans k) (fun h k => Below.next h k) (fun {A C} h k => k.mono h.size) (Below.refl _ _) (Below.refl _ _) (fun i v A C hi hu h _ => muR_const _ _ _ _ _ _ _ _ i v A C hi hu h) (fun i v A C hu h hb => muR_kept _ _ _ _ _ _ _ _ i v A C (by simp at hu; omega) h hb) (fun v A C h hb => muR_kept _ _ _ _ _ _ _ _ 7 v A C (Nat.le_refl _) h hb) ?hops ?hend
      case hops =>
        intro i o ho a w1 hdf hsz hex _ hdep hrest
        have HX := Lib.hid (show Below W5.heap.size W5 w1 from HD1.out.trans hex)
        obtain ⟨x0, x1, x2, x3, x4, x5, x6, x7, x8, x9, x10, x11, x12, x13, x14, x15, x16, x17, x18, x19, x20, x21, x22, x23, x24, x25, x26, x27, x28, x29, x30, x31, x32, x33, x34, x35, x36, x37, x38, x39, x40, rfl⟩ := act_open41 hsz hdf
        clear m1 m2 m3 m4 m5 ml
        match i with
        | 0 =>
          obtain rfl : _ = o := Option.some.inj ho
          obtain rfl : x1 = .pointer (some ⟨w.heap.size, 0, none⟩) := hrest.at 1 (by kernel_rfl)
          go_wp2
          exact ⟨rfl, _, rfl, rfl, Below.refl _ _⟩
        | 1 =>
          obtain rfl : _ = o := Option.some.inj ho
          obtain rfl : x15 = _ := dep_at hdep 0 15 (by kernel_rfl)
          have m1 := (HM5.out.keep HX.out).cell 1 rfl
          have ml := (HM5.out.keep HX.out).lt
          go_wp2
          exact ⟨rfl, _, rfl, rfl, Below.refl _ _⟩
        | 2 =>
          obtain rfl : _ = o := Option.some.inj ho
          obtain rfl : x16 = _ := dep_at hdep 1 16 (by kernel_rfl)
          go_wp2_with fail
          with_reducible refine (HCL.out _ HX.out).mono ?_
          rintro e' w2 ⟨o2, l2, c2, xc, rfl, h1, h2, h3, h4⟩
          have hz := h4.size
          go_wp2
          exact ⟨rfl, _, rfl, ⟨by have := HBW.out; omega, o2, l2, c2, xc, rfl, h1, h2⟩, h3⟩
        | 3 =>
          obtain rfl : _ = o := Option.some.inj ho
          obtain rfl : x1 = .pointer (some ⟨w.heap.size, 0, none⟩) := hrest.at 1 (by kernel_rfl)
          go_wp2
          exact ⟨rfl, _, rfl, rfl, Below.refl _ _⟩
        | 4 =>
          obtain rfl : _ = o := Option.some.inj ho
          obtain rfl : x18 = _ := dep_at hdep 3 18 (by kernel_rfl)
          have m2 := (HM5.out.keep HX.out).cell 2 rfl
          have m3 := (HM5.out.keep HX.out).cell 3 rfl
          have m4 := (HM5.out.keep HX.out).cell 4 rfl
          have m5 := (HM5.out.keep HX.out).cell 5 rfl
          have ml := (HM5.out.keep HX.out).lt
          go_wp2
          exact ⟨rfl, _, rfl, rfl, Below.refl _ _⟩
        | 5 =>
          obtain rfl : _ = o := Option.some.inj ho
          obtain rfl : x19 = _ := dep_at hdep 4 19 (by kernel_rfl)
          go_wp2
          exact ⟨rfl, _, rfl, rfl, Below.refl _ _⟩
        | 6 =>
          obtain rfl : _ = o := Option.some.inj ho
          obtain rfl : x20 = .agg ([.slice none 0 0, .bool false, .int .i64 m.body.op, .int .i64 m.body.n, .slice q r u, .slice q' r' u'] : List Value).toArray := dep_at hdep 5 20 (by kernel_rfl)
          exact wpList_bs1 (v := .slice (some ⟨w1.heap.size, 0, none⟩) 1 1) (w' := w1.alloc (.cells #[.slice none 0 0, .bool false, .int .i64 m.body.op, .int .i64 m.body.n, .slice q r u, .slice q' r' u'] 50)) rfl rfl rfl (bs_code _ _ _ _ _ _ _ _ _ _ _ _ _) ⟨rfl, _, rfl, ⟨_, rfl, BoxL.new rfl _ _⟩, Below.one _ _⟩
        | 7 =>
          obtain rfl : _ = o := Option.some.inj ho
          obtain ⟨hB1, o2, l2, c2, xc, h17, hown, hcs⟩ : B ≤ w1.heap.size ∧ ∃ (o : Option Addr) (l c : Nat) (xc : List Value), x17 = .slice o l c ∧ w1.ownsRow W5.heap.size 50 6 (.slice o l c) nC xc ∧ CellsG 6 (CodR w1 B) m.codes xc := dep_at hdep 2 17 (by kernel_rfl)
          subst h17
          obtain ⟨b, h21, hbx⟩ : ∃ b, x21 = .slice (some ⟨b, 0, none⟩) 1 1 ∧ BoxL w1 b 50 [.slice none 0 0, .bool false, .int .i64 m.body.op, .int .i64 m.body.n, .slice q r u, .slice q' r' u'] := dep_at hdep 6 21 (by kernel_rfl)
          subst h21
          refine wpList_append_lies w1 rfl (.tmp 17) (.tmp 21) 38 rfl W5.heap.size 50 i0 (.agg #[.slice none 0 0, .bool false, .int .i64 0, .int .i64 0, .slice none 0 0, .slice none 0 0]) 6 96 Tryz.underlying38 hi hz0 hz1 hz2 rfl (by decide) (.slice o2 l2 c2) nC xc rfl hown ⟨b, 0, none⟩ 1 1 [.slice none 0 0, .bool false, .int .i64 m.body.op, .int .i64 m.body.n, .slice q r u, .slice q' r' u'] rfl rfl (box_cells hbx) (by intro u hu; simp only [List.mem_cons, List.not_mem_nil, or_false] at hu; rcases hu with rfl | rfl | rfl | rfl | rfl | rfl <;> rfl) (by decide) (by unfold maxLen; omega) (by omega) (by have := HX.out.size; omega) w1.heap.size rfl ?_
          intro g cap w7 hown7 hgr7 hlie7 hlt7
          have hz7 := hgr7.size
          have HG7 : Below W5.heap.size w1 w7 := (Below.refl W5.heap.size w1).grown hgr7 HX.out.size (fun g hg => ownBlock_base hown hg)
          exact ⟨rfl, _, rfl, ⟨by omega, g, cap, xc, rfl, hown7, hcs.mono fun _ _ _ h => CodR.kept h (HG7.mono HBW.out)⟩, HG7⟩
        | 8 =>
          obtain rfl : _ = o := Option.some.inj ho
          obtain ⟨hB1, g, cap, xc, h22, hown, hcs⟩ : B ≤ w1.heap.size ∧ ∃ (g cap : Nat) (xc : List Value), x22 = .slice (some ⟨g, 0, none⟩) (nC + 1) cap ∧ w1.ownsRow W5.heap.size 50 6 (.slice (some ⟨g, 0, none⟩) (nC + 1) cap) (nC + 1) (xc ++ ([.slice none 0 0, .bool false, .int .i64 m.body.op, .int .i64 m.body.n, .slice q r u, .slice q' r' u'] : List Value)) ∧ CellsG 6 (CodR w1 B) m.codes xc := dep_at hdep 7 22 (by kernel_rfl)
          subst h22
          go_wp2
          exact ⟨rfl, _, rfl, by show _ = _; simp, Below.refl _ _⟩
        | 9 =>
          obtain rfl : _ = o := Option.some.inj ho
          go_wp2
          exact ⟨rfl, _, rfl, rfl, Below.refl _ _⟩
        | i + 10 => exact absurd (Array.getElem?_eq_some_iff.1 ho).1 (by simp)
      case hend =>
        intro a w1 hdf hsz hex hval hrest
        obtain ⟨x0, x1, x2, x3, x4, x5, x6, x7, x8, x9, x10, x11, x12, x13, x14, x15, x16, x17, x18, x19, x20, x21, x22, x23, x24, x25, x26, x27, x28, x29, x30, x31, x32, x33, x34, x35, x36, x37, x38, x39, x40, rfl⟩ := act_open41 hsz hdf
        obtain rfl : x0 = .agg #[.slice oc lc cc', .slice op lp cp, .int .i64 m.body.op, .int .i64 m.body.n, .slice q r u, .slice q' r' u'] := hrest.at 0 (by kernel_rfl)
        obtain rfl : x1 = .pointer (some ⟨w.heap.size, 0, none⟩) := hrest.at 1 (by kernel_rfl)
        obtain rfl : x2 = .pointer (some ⟨w.heap.size + 1, 0, none⟩) := hrest.at 2 (by kernel_rfl)
        obtain rfl : x3 = .int .i64 0 := hrest.at 3 (by kernel_rfl)
        obtain rfl : x4 = .pointer (some ⟨w4.heap.size, 0, none⟩) := hrest.at 4 (by kernel_rfl)
        obtain rfl : x5 = undef := hrest.at 5 (by kernel_rfl)
        obtain rfl : x6 = undef := hrest.at 6 (by kernel_rfl)
        obtain rfl : x7 = .agg #[.slice oc lc cc', .slice op lp cp, .int .i64 m.body.op, .int .i64 m.body.n, .slice q r u, .slice q' r' u'] := hrest.at 7 (by kernel_rfl)
        obtain rfl : x8 = .int .i64 0 := hrest.at 8 (by kernel_rfl)
        obtain rfl : x9 = .bool false := hrest.at 9 (by kernel_rfl)
        obtain rfl : x10 = undef := hrest.at 10 (by kernel_rfl)
        obtain rfl : x11 = .pointer (some ⟨w.heap.size, 0, none⟩) := hrest.at 11 (by kernel_rfl)
        obtain rfl : x12 = .slice oc lc cc' := hrest.at 12 (by kernel_rfl)
        obtain rfl : x13 = .slice ov lv cv2 := hrest.at 13 (by kernel_rfl)
        obtain rfl : x14 = .agg #[.slice ov lv cv2, .slice none 0 0] := hrest.at 14 (by kernel_rfl)
        obtain rfl : x25 = undef := hrest.at 25 (by kernel_rfl)
        obtain rfl : x26 = undef := hrest.at 26 (by kernel_rfl)
        obtain rfl : x27 = undef := hrest.at 27 (by kernel_rfl)
        obtain rfl : x28 = undef := hrest.at 28 (by kernel_rfl)
        obtain rfl : x29 = undef := hrest.at 29 (by kernel_rfl)
        obtain rfl : x30 = undef := hrest.at 30 (by kernel_rfl)
        obtain rfl : x31 = undef := hrest.at 31 (by kernel_rfl)
        obtain rfl : x32 = undef := hrest.at 32 (by kernel_rfl)
        obtain rfl : x33 = undef := hrest.at 33 (by kernel_rfl)
        obtain rfl : x34 = undef := hrest.at 34 (by kernel_rfl)
        obtain rfl : x35 = undef := hrest.at 35 (by kernel_rfl)
        obtain rfl : x36 = undef := hrest.at 36 (by kernel_rfl)
        obtain rfl : x37 = undef := hrest.at 37 (by kernel_rfl)
        obtain rfl : x38 = undef := hrest.at 38 (by kernel_rfl)
        obtain rfl : x39 = undef := hrest.at 39 (by kernel_rfl)
        obtain rfl : x40 = undef := hrest.at 40 (by kernel_rfl)
        obtain ⟨hB1, g, cap, xc, h22, hown, hcs⟩ : B ≤ w1.heap.size ∧ ∃ (g cap : Nat) (xc : List Value), x22 = .slice (some ⟨g, 0, none⟩) (nC + 1) cap ∧ w1.ownsRow W5.heap.size 50 6 (.slice (some ⟨g, 0, none⟩) (nC + 1) cap) (nC + 1) (xc ++ ([.slice none 0 0, .bool false, .int .i64 m.body.op, .int .i64 m.body.n, .slice q r u, .slice q' r' u'] : List Value)) ∧ CellsG 6 (CodR w1 B) m.codes xc := hval 7 _ 22 rfl rfl rfl
        subst h22
        obtain rfl : x23 = .int .i64 ((nC : Int) + 1) := hval 8 _ 23 rfl rfl rfl
        obtain rfl : x24 = .int .i64 0 := hval 9 _ 24 rfl rfl rfl
        have HX := Lib.hid (show Below W5.heap.size W5 w1 from HD1.out.trans hex)
        have HON := Lib.hid hown
        have HCC := Lib.hid hcs
        clear m1 m2 m3 m4 m5 ml hval hrest hown hcs hex
        go_wp2_with fail
        go_meet
        exact ⟨g, cap, xc, rfl, rfl, rfl, HON, HCC, HX⟩
    case rest =>
      obtain ⟨g, cap, xc, rfl, rfl, rfl, HO7, HC7, HG7⟩ := hcut
      obtain ⟨xs0, hxs0⟩ : ∃ xs0, xc ++ [.slice none 0 0, .bool false, .int .i64 m.body.op, .int .i64 m.body.n, .slice q r u, .slice q' r' u'] = xs0 := ⟨_, rfl⟩
      have HCX := Lib.hid (show CellsG 6 (CodR wc B) m.cods xs0 from by
        rw [← hxs0]
        refine CellsG.snoc (size := 6) rfl ?_ HC7.out
        exact ⟨_, _, _, _, _, rfl, ⟨none, 0, 0, rfl, rfl, Nat.le_refl _, by omega, rfl, rfl⟩, TrmR.kept ((HB5.out.trans (HG7.out.mono HB5.out.size)).mono hB) _ _ HBODY.out⟩)
      rw [hxs0] at HO7
      have HCL2 := Lib.hid (show m.cods.length = nC + 1 from by rw [Mdl.cods, List.length_append, HNC.out]; rfl)
      have HBC := Lib.hid (show Below w.heap.size w wc from HB5.out.trans (HG7.out.mono HB5.out.size))
      have HRC := Lib.hid (HR5.out.keep HG7.out)
      have HUC := Lib.hid (HU5.out.keep HG7.out)
      have hH4 : w.heap.size + 1 < w4.heap.size := Nat.lt_of_lt_of_le HR3.out.lt HB4.out.size
      have h4c : Below w4.heap.size w4 wc := Below.next (show Below w4.heap.size w4 W5 from by rw [← HW5.out]; exact Below.one w4 _) HG7.out
      have HI0 := Lib.hid (show MuI (m.cods.map (Mk.proc Mk.lkL)) m.consts (nC + 1) w.heap.size w4.heap.size (.slice ov lv cv2) (.slice (some ⟨g, 0, none⟩) (nC + 1) cap) xs0 w 0 wc from
        ⟨.slice none 0 0, [], HBC.out, HRC.out, HUC.out, ⟨_, _, _, rfl⟩, World.ownsRow_nil _ _ _ _, rfl, ⟨gap w4 B w3.heap.size, w4.heap.size, (fun b o u hc => by
          obtain ⟨h1, h2⟩ := gap_some hc
          have hl := cell_lt h2
          refine ⟨Nat.lt_of_lt_of_le hl h4c.size, fun h => ?_, keepC h4c h2⟩
          rcases h with h | h | h
          · have h : b = w4.heap.size := h
            have hl : b < w4.heap.size := hl
            omega
          · have h : b = w.heap.size + 1 := h
            have h3 := HR3.out.lt
            exact h1 ⟨by omega, by omega⟩
          · simp [Value.ownBlock] at h), h4c.size, HCV.out⟩, ownsRow_base HO7.out (by have := HS5.out; omega)⟩)
      clear hxs0 HO7 HC7
      clear h4c
      go_wp2_with fail
      go_loopg [24] (nC + 1) (fun G i wr => ∃ j : Nat, G = (nC + 1) - j ∧ j ≤ nC + 1 ∧ i = .int .i64 j ∧ Hid (MuI (m.cods.map (Mk.proc Mk.lkL)) m.consts (nC + 1) w.heap.size w4.heap.size (.slice ov lv cv2) (.slice (some ⟨g, 0, none⟩) (nC + 1) cap) xs0 w j wr) ∧ wc.heap.size ≤ wr.heap.size)
      case atStart => exact ⟨0, rfl, by omega, rfl, HI0, Nat.le_refl _⟩
      case round =>
        obtain ⟨j, rfl, hj, rfl, HI, hzz⟩ := hrel
        clear HI0 HUC HRC
        obtain ⟨v, xs, hb, hbr, hbx, ⟨o5, l5, c5, rfl⟩, hown, hcs, hcons, hrow⟩ := HI.out
        by_cases hjl : j < nC + 1
        · obtain ⟨c, hcj⟩ : ∃ c, m.cods[j]? = some c := ⟨_, List.getElem?_eq_getElem (by rw [HCL2.out]; exact hjl)⟩
          obtain ⟨cs, hcl, hcr, hcx⟩ := CellsG.at HCX.out hcj
          obtain ⟨ov', lv', cv', q1, r1, u1, q2, r2, u2, rfl, hsv, hst⟩ := codR_shape hcr
          have e0 := row_cells hrow (hcx 0 _ rfl)
          have e1 := row_cells hrow (hcx 1 _ rfl)
          have e2 := row_cells hrow (hcx 2 _ rfl)
          have e3 := row_cells hrow (hcx 3 _ rfl)
          have e4 := row_cells hrow (hcx 4 _ rfl)
          have e5 := row_cells hrow (hcx 5 _ rfl)
          rw [Nat.add_zero] at e0
          have hgl := cell_lt e0
          have HCJ := Lib.hid hcj
          have HCR := Lib.hid hcr
          have HIR := Lib.hid (show MuI (m.cods.map (Mk.proc Mk.lkL)) m.consts (nC + 1) w.heap.size w4.heap.size (.slice ov lv cv2) (.slice (some ⟨g, 0, none⟩) (nC + 1) cap) xs0 w j wr from HI.out)
          obtain ⟨p, hp⟩ : ∃ p, Mk.proc Mk.lkL c = p := ⟨_, rfl⟩
          have HPJ := Lib.hid (show (m.cods.map (Mk.proc Mk.lkL))[j]? = some p from by rw [List.getElem?_map, hcj, ← hp]; rfl)
          have HAL := Lib.hid (show p.alive = [] from by rw [← hp]; rfl)
          have HOWN := Lib.hid hown
          have HBB := Lib.hid hb
          have HRB := Lib.hid hbr
          have HXB := Lib.hid hbx
          have HCS := Lib.hid hcs
          have HCN := Lib.hid hcons
          have HRW := Lib.hid hrow
          obtain ⟨nc, nk, fr, sc, hwf⟩ := cods_wf HOK.out c (List.mem_of_getElem? hcj)
          have HPR := Lib.hid (proc_any c _ _ _ _ _ B nc nk fr sc (wr.alloc (.cells #[.slice ov' lv' cv', .bool c.rest, .int .i64 c.body.op, .int .i64 c.body.n, .slice q1 r1 u1, .slice q2 r2 u2] 50)).drew (CodR.kept HCR.out ((cod_up HBC.out hb hB hzz).trans ((Below.one wr _).drew.mono (by have := hb.size; omega)))) (by have := hb.size; show B ≤ (wr.alloc _).heap.size; simp; omega) hwf ⟨cods_short HOK.out c (List.mem_of_getElem? hcj), HSZ.out c (List.mem_of_getElem? hcj)⟩)
          rw [hp] at HPR
          have HD7 := Lib.hid (show Below wr.heap.size wr (wr.alloc (.cells #[.slice ov' lv' cv', .bool c.rest, .int .i64 c.body.op, .int .i64 c.body.n, .slice q1 r1 u1, .slice q2 r2 u2] 50)).drew from (Below.one wr _).drew)
          have hjs : j ≤ 1001 := by omega
          have hwrz : w.heap.size + 2 ≤ wr.heap.size := by have := hbx.lt; omega
          have b0 := (hbx.keep HD7.out).cell 0 rfl
          have b1 := hbx.cell 1 rfl
          have bl := hbx.lt
          obtain ⟨i0, hi, hz0, hz1, hz2⟩ := info_parts info_procC
          clear hcj hcr hcx hsv hst hb hbr hbx hown hcs hcons hrow hwf hp
          go_upto_region 7 with fail
          clear e0 e1 e2 e3 e4 e5 hgl
          go_region_law (first
            | (refine step_append_lies _ rfl (.tmp 29) (.tmp 32) 23 rfl (w.heap.size + 2) 31 i0 (.agg #[.int .i64 0, .bool false, .int .i64 0, .slice none 0 0, .slice none 0 0]) 5 72 Tryz.underlying23 hi hz0 hz1 hz2 rfl (by decide) (.slice o5 l5 c5) j xs rfl (HO8.out.alloc _) ⟨w8.heap.size, 0, none⟩ 1 1 [.int .i64 p.args, .bool p.rest, .int .i64 p.regs, .slice o8 l8 c8, .slice none 0 0] rfl rfl (new_cells w8 _ _) (by intro u hu; simp only [List.mem_cons, List.not_mem_nil, or_false] at hu; rcases hu with rfl | rfl | rfl | rfl | rfl <;> rfl) (by decide) (by unfold maxLen; omega) (by omega) (by have := HW8.out.size; simp; omega) (w8.heap.size + 1) (by simp) ?_; intro g7 cap7 w9 hown9 hgr9 hlie9 hlt9; have HZ9 := Lib.hid (Nat.le_trans (Below.one w8 _).size hgr9.size); have HST := Lib.hid (muI_step HBB.out HRB.out HXB.out HOWN.out HCS.out HCN.out HRW.out hH4 HPJ.out HW8.out (Below.one w8 _) hgr9 HSL8.out HAR8.out.1 HAR8.out.2 HAL.out hown9 (hlie9.imp id (fun h => by rw [h]; simp))); have t0 := HST.out.1.cell 1 rfl; have tz := HST.out.1.free 1; have tl := HST.out.1.lt; clear hown9 hgr9 hlie9 hlt9)
            | (go_simp; go_wp2_with (go_at_call 41; (with_reducible refine HPR.out.mono ?_); rintro e w8 ⟨o8, l8, c8, rfl, hpr8, hb8⟩; have HW8 := Lib.hid (Below.next HD7.out hb8); have HO8 := Lib.hid (ownsRow_keep HOWN.out HW8.out); have HSL8 := Lib.hid (procR_low hpr8 HD7.out.size); have HAR8 := Lib.hid (procR_args hpr8); have k1 := (HXB.out.keep HW8.out).cell 1 rfl; have kl := (HXB.out.keep HW8.out).lt; clear hpr8 hb8)))
          all_goals
            have HN := Lib.hid HST.out.2
            have hz9 : wc.heap.size ≤ (w9.setCell ⟨w4.heap.size, 1, none⟩ (.slice (some ⟨g7, 0, none⟩) (j + 1) cap7)).heap.size := by rw [World.size_setCell]; exact Nat.le_trans hzz (Nat.le_trans HW8.out.size HZ9.out)
            clear t0 tz tl
            go_wp2_with fail
            go_roundg (nC + 1 - (j + 1))
            case measure => omega
            case rel => exact ⟨j + 1, by omega, by omega, by go_num, HN, hz9⟩
        · obtain rfl : j = nC + 1 := by omega
          obtain ⟨U, B', hsub, hB', hrs⟩ := hcons
          have HPS := Lib.hid (show (m.cods.map (Mk.proc Mk.lkL)).take (nC + 1) = (m.unit Mk.lkL).procs from by
            rw [unit_cods]
            exact List.take_of_length_le (by rw [List.length_map, HCL2.out]; exact Nat.le_refl _))
          rw [HPS.out] at hcs
          have HLN := Lib.hid (show (m.unit Mk.lkL).procs.length = nC + 1 from by rw [unit_cods, List.length_map, HCL2.out])
          have HUR := Lib.hid (show UntR wr wr.heap.size (m.unit Mk.lkL) (.agg #[.slice ov lv cv2, .slice o5 l5 c5]) from
            ⟨_, _, rfl, hrs.cellsTo hsub.cells hB', slC_of_row (te := 31) (base := w.heap.size + 2) (by rw [HLN.out]; exact hown) (hcs.mono fun x _ cs h => h.read)⟩)
          have HCK2 := Lib.hid (fcheck_any (m.unit Mk.lkL) _ wr.heap.size wr HUR.out (Nat.le_refl _))
          have HBB := Lib.hid hb
          have HRB := Lib.hid hbr
          have HXB := Lib.hid hbx
          have HCS := Lib.hid hcs
          have HOWN := Lib.hid hown
          have HSUB := Lib.hid hsub
          have HRS := Lib.hid hrs
          have hB'' := hB'
          have q0 := hbx.cell 0 rfl
          have q1 := hbx.cell 1 rfl
          have ql := hbx.lt
          clear hb hbr hbx hown hcs hsub hrs hrow HI hB'
          go_wp2_with fail
          with_reducible refine HCK2.out.mono ?_
          rintro e w9 ⟨rfl, hb9⟩
          have HB9 := Lib.hid hb9
          have HB99 := Lib.hid (HBB.out.trans (hb9.mono HBB.out.size))
          have HR9 := Lib.hid (HRB.out.keep hb9)
          have HX9 := Lib.hid (HXB.out.keep hb9)
          clear hb9 q0 q1 ql HCK2
          have r0 := HR9.out.cell 0 rfl
          have r1 := HR9.out.cell 1 rfl
          have z0 := HR9.out.free 0
          have z1 := HR9.out.free 1
          have rl := HR9.out.lt
          cases hok2 : (m.unit Mk.lkL).okB with
          | false =>
            have he : (m.unit Mk.lkL).err = 5 := by simp [Unt.err, hok2]
            have HE := Lib.hid (show m.makeErr Mk.lkL = 5 from by simp [Mdl.makeErr, hok2])
            have HU := Lib.hid (show m.makeU Mk.lkL = ⟨[], []⟩ from by simp [Mdl.makeU, hok2])
            rw [he]
            clear he hok2
            have bN := (HR9.out.set 0 (.slice none 0 0)).set 1 (.slice none 0 0)
            have n0 := bN.cell 0 rfl
            have n1 := bN.cell 1 rfl
            have HBF := Lib.hid ((HB99.out.setCell (p := ⟨w.heap.size + 1, 0, none⟩) (by dsimp only; omega) (.slice none 0 0)).setCell (p := ⟨w.heap.size + 1, 1, none⟩) (by dsimp only; omega) (.slice none 0 0))
            clear bN
            go_wp2_with fail
            refine bodyPost_ret (v := .tuple #[.agg #[.slice none 0 0, .slice none 0 0], .int .i64 5]) (by simp [results, Tryz.results15, go_sem, n0, n1]) rfl ⟨.slice none 0 0, .slice none 0 0, by rw [HE.out], ?_, HBF.out⟩
            rw [HU.out]
            exact ⟨_, _, rfl, ⟨none, 0, 0, rfl, rfl, Nat.le_refl _, by omega, rfl, rfl⟩, ⟨none, 0, 0, rfl, rfl, Nat.le_refl _, by omega, rfl, rfl⟩⟩
          | true =>
            have he : (m.unit Mk.lkL).err = 0 := by simp [Unt.err, hok2]
            have HE := Lib.hid (show m.makeErr Mk.lkL = 0 from by simp [Mdl.makeErr, hok2, HOK.out])
            have HU := Lib.hid (show m.makeU Mk.lkL = m.unit Mk.lkL from by simp [Mdl.makeU, hok2, HOK.out])
            rw [he]
            clear he hok2
            have q0 := HX9.out.cell 0 rfl
            have q1 := HX9.out.cell 1 rfl
            have ql := HX9.out.lt
            have bN := (HR9.out.set 0 (.slice ov lv cv2)).set 1 (.slice o5 l5 c5)
            have n0 := bN.cell 0 rfl
            have n1 := bN.cell 1 rfl
            have HBF := Lib.hid ((HB99.out.setCell (p := ⟨w.heap.size + 1, 0, none⟩) (by dsimp only; omega) (.slice ov lv cv2)).setCell (p := ⟨w.heap.size + 1, 1, none⟩) (by dsimp only; omega) (.slice o5 l5 c5))
            have hst : ∀ V, Sub (fun b => b = w4.heap.size ∨ b = w.heap.size + 1 ∨ (Value.slice o5 l5 c5).ownBlock = some b) V wr → Sub (fun b => b = w4.heap.size ∨ b = w.heap.size + 1 ∨ (Value.slice o5 l5 c5).ownBlock = some b) V ((w9.setCell ⟨w.heap.size + 1, 0, none⟩ (.slice ov lv cv2)).setCell ⟨w.heap.size + 1, 1, none⟩ (.slice o5 l5 c5)) := fun V hV => ((hV.below HB9.out).set ⟨w.heap.size + 1, 0, none⟩ _ (.inr (.inl rfl))).set ⟨w.heap.size + 1, 1, none⟩ _ (.inr (.inl rfl))
            have HUF := Lib.hid (show UntR ((w9.setCell ⟨w.heap.size + 1, 0, none⟩ (.slice ov lv cv2)).setCell ⟨w.heap.size + 1, 1, none⟩ (.slice o5 l5 c5)) ((w9.setCell ⟨w.heap.size + 1, 0, none⟩ (.slice ov lv cv2)).setCell ⟨w.heap.size + 1, 1, none⟩ (.slice o5 l5 c5)).heap.size (m.unit Mk.lkL) (.agg #[.slice ov lv cv2, .slice o5 l5 c5]) from by
              have hz9 := HB9.out.size
              refine ⟨_, _, rfl, HRS.out.cellsTo (hst U HSUB.out).cells (by rw [World.size_setCell, World.size_setCell]; omega), ?_⟩
              refine slC_of_row (te := 31) (base := w.heap.size + 2) ?_ (HCS.out.mono fun x _ cs h => (h.to hst (by rw [World.size_setCell, World.size_setCell]; exact hz9)).read)
              rw [HLN.out]
              exact ownsRow_setCell_below (ownsRow_setCell_below (ownsRow_keep HOWN.out HB9.out) (a := ⟨w.heap.size + 1, 0, none⟩) (by dsimp only; omega) _) (a := ⟨w.heap.size + 1, 1, none⟩) (by dsimp only; omega) _)
            clear bN hst
            go_wp2_with fail
            refine bodyPost_ret (v := .tuple #[.agg #[.slice ov lv cv2, .slice o5 l5 c5], .int .i64 0]) (by simp [results, Tryz.results15, go_sem, n0, n1]) rfl ⟨.slice ov lv cv2, .slice o5 l5 c5, by rw [HE.out], ?_, HBF.out⟩
            rw [HU.out]
            exact HUF.out
end Go.Proofs.YtigkhmppnnljiaaGreatDoor

/-
  The contracts of strings.Builder's WriteString (its copy check walked at this dump) and String.
-/
import Derived.Test.YtlpkpkcfgchngaaGreatDoorEnv
import Derived.Lib.FrozenHead
import Derived.Lib.FrozenHead2
import Derived.Lib.OthersKept
import Derived.Laws.Externs
import Derived.Test.YtlpkpkcfgchngaaGreatDoorListUp
import Derived.Test.YtlpkpkcfgchngaaGreatDoorParses
namespace Go.Proofs.YtlpkpkcfgchngaaGreatDoor
open Go.RowKit

theorem info_builder : (Tryz.prog.info? 47).map (·.size) = some 2 := by kernel_rfl
theorem info_byte : (Tryz.prog.info? 5).map (fun i => (i.zero, i.size, i.bytes)) = some (some (.int .u8 0), 1, 1) := by kernel_rfl
theorem lies_builder : liesAt Tryz.prog Tryz.prog.depth 47 (2 / Tryz.prog.cellsOf 47) 0 47 1 = true := by kernel_rfl

set_option maxHeartbeats 1000000 in
set_option maxRecDepth 100000 in
theorem copy_used (b : Nat) (w : World) (h0 : w.cell? ⟨b, 0, none⟩ = some (.pointer (some ⟨b, 0, none⟩))) :
    Calls Tryz.prog 76 #[.pointer (some ⟨b, 0, none⟩)] w fun e w' => e = .returned (.tuple #[]) ∧ w' = w := by
  obtain ⟨j, hj, _⟩ := Option.map_eq_some_iff.1 info_builder
  go_enter Tryz.func76, Tryz.ntmps76
  go_wp2
  rw [Lib.run_neq_ptr_same w _ Tryz.underlying44 hj]
  go_wp2
  go_end0
  exact ⟨rfl, rfl⟩

set_option maxHeartbeats 1000000 in
set_option maxRecDepth 100000 in
theorem copy_fresh (b : Nat) (w : World) (h0 : w.cell? ⟨b, 0, none⟩ = some (.pointer none)) (hsh : w.shape? b = some (47, 2)) (hfz : w.frozen? ⟨b, 0, none⟩ = false) :
    Calls Tryz.prog 76 #[.pointer (some ⟨b, 0, none⟩)] w fun e w' => e = .returned (.tuple #[]) ∧ w' = w.setCell ⟨b, 0, none⟩ (.pointer (some ⟨b, 0, none⟩)) := by
  obtain ⟨j, hj, hjs⟩ := Option.map_eq_some_iff.1 info_builder
  go_enter Tryz.func76, Tryz.ntmps76
  go_wp2
  rw [Lib.run_to_unsafe w ⟨b, 0, none⟩ Tryz.underlying44 Tryz.underlying94 hj (by rw [hjs]; decide) hsh (Nat.zero_lt_succ 1)]
  simp only [Result.andThen]
  rw [Oper.upon_value]
  go_wp2
  rw [run_callFunc_extern Tryz.func87 (by kernel_rfl) (by kernel_rfl) (by kernel_rfl) (e := Extern.AbiNoEscape.same) (by kernel_rfl)]
  rw [Lib.run_noEscape]
  simp only [Result.andThen]
  rw [Oper.upon_value]
  go_wp2
  rw [Lib.run_from_unsafe w ⟨b, 0, none⟩ Tryz.underlying94 Tryz.underlying44 hj hsh lies_builder]
  simp only [Result.andThen]
  rw [Oper.upon_value]
  go_wp2
  go_end0
  exact ⟨rfl, rfl⟩

/-- A builder of the call's own, at block b, its memory from block B on, that holds the bytes. -/
def IsB (B b : Nat) (l : List UInt8) (w : World) : Prop := Lib.IsBuilderF 47 5 B b (Lib.byteCells l) w
/-- Nothing else has turned. -/
def BKeep (B b : Nat) (w w' : World) : Prop := Below B w w' ∧ Lib.OthersKept 5 (some b) w w'

theorem BKeep.refl (B b : Nat) (w : World) : BKeep B b w w := ⟨Below.refl _ _, Lib.OthersKept.refl _ _ _⟩
theorem BKeep.trans {B b : Nat} {w1 w2 w3 : World} (h : BKeep B b w1 w2) (k : BKeep B b w2 w3) : BKeep B b w1 w3 := ⟨h.1.trans k.1, h.2.trans k.2⟩
theorem BKeep.of_below {B b : Nat} {w1 w2 : World} (hB : B ≤ w1.heap.size) (h : Below w1.heap.size w1 w2) : BKeep B b w1 w2 :=
  ⟨h.mono hB, fun k o hk _ _ => (h.block k (Array.getElem?_eq_some_iff.1 hk).1).trans hk⟩
theorem BKeep.size {B b : Nat} {w1 w2 : World} (h : BKeep B b w1 w2) : w1.heap.size ≤ w2.heap.size := h.1.size

theorem grown_of_below {w w' : World} (h : Below w.heap.size w w') : w.grownBy w' none := ⟨h.os, h.tape, h.output, h.size, fun k hk _ => h.block k hk⟩

theorem builder_below {B b : Nat} {p : Value} {bs : List Value} {w w' : World} (h : Lib.BuilderAtF 47 5 B b p bs w) (hb : Below w.heap.size w w') : Lib.BuilderAtF 47 5 B b p bs w' := by
  have hlt := h.lt
  obtain ⟨hB, v, hbk, hown, hne⟩ := h
  exact ⟨hB, v, (hb.block b hlt).trans hbk, hown.kept (grown_of_below hb) (by cases hv : v.ownBlock <;> simp), hne⟩
theorem IsB.below {B b : Nat} {l : List UInt8} {w w' : World} (h : IsB B b l w) (hb : Below w.heap.size w w') : IsB B b l w' :=
  h.elim (fun x => .inl (builder_below x hb)) (fun x => .inr (builder_below x hb))
theorem IsB.lt {B b : Nat} {l : List UInt8} {w : World} (h : IsB B b l w) : b < w.heap.size := h.elim (fun x => x.lt) (fun x => x.lt)
theorem IsB.base {B b : Nat} {l : List UInt8} {w : World} (h : IsB B b l w) : B ≤ b := h.elim (fun x => x.1) (fun x => x.1)

theorem copy_any (B b : Nat) (bs : List Value) (w : World) (h : Lib.IsBuilderF 47 5 B b bs w) :
    Calls Tryz.prog 76 #[.pointer (some ⟨b, 0, none⟩)] w fun e w' => e = .returned (.tuple #[]) ∧ (Lib.BuilderAtF 47 5 B b (.pointer (some ⟨b, 0, none⟩)) bs w' ∧ BKeep B b w w') := by
  rcases h with h | h
  · refine (copy_fresh b w h.cell0 h.shape h.frozen0).mono ?_
    rintro e w' ⟨rfl, rfl⟩
    exact ⟨rfl, h.used _, (Below.refl B w).setCell (p := ⟨b, 0, none⟩) h.1 _, (Lib.OthersKept.refl _ _ w).setCell ⟨b, 0, none⟩ rfl _⟩
  · refine (copy_used b w h.cell0).mono ?_
    rintro e w' ⟨rfl, rfl⟩
    exact ⟨rfl, h, BKeep.refl _ _ _⟩

theorem byteCells_append (l : List UInt8) (s : ByteArray) : Lib.byteCells l ++ Lib.strCells s = Lib.byteCells (l ++ s.data.toList) := by
  unfold Lib.byteCells Lib.strCells
  simp
theorem byteCells_length (l : List UInt8) : (Lib.byteCells l).length = l.length := by unfold Lib.byteCells; simp

set_option maxHeartbeats 2000000 in
set_option maxRecDepth 100000 in
theorem writeString_any (B b : Nat) (l : List UInt8) (s : ByteArray) (w : World) (h : IsB B b l w) (hlen : l.length + s.size ≤ 140737488355328) (hBw : B ≤ w.heap.size) :
    Calls Tryz.prog 59 #[.pointer (some ⟨b, 0, none⟩), .string s] w fun e w' => e = .returned (.tuple #[.int .i64 s.size, .nilIface]) ∧ (IsB B b (l ++ s.data.toList) w' ∧ BKeep B b w w') := by
  have hlen2 : (Lib.byteCells l).length + s.size ≤ 140737488355328 := by rw [byteCells_length]; exact hlen
  obtain ⟨i0, hi, hz0, hz1, hz2⟩ := info_parts info_byte
  go_enter Tryz.func59, Tryz.ntmps59
  go_wp2_with (go_at_call 76; refine (copy_any B b (Lib.byteCells l) _ h).mono ?_)
  rintro e w1 ⟨rfl, h1, hk1⟩
  obtain ⟨hB, v, hbk, hown, hne⟩ := h1
  have c0 : w1.cell? ⟨b, 0, none⟩ = some (.pointer (some ⟨b, 0, none⟩)) := by rw [Lib.cell_of_heap hbk]; rfl
  have c1 : w1.cell? ⟨b, 1, none⟩ = some v := by rw [Lib.cell_of_heap hbk]; rfl
  go_wp2_with (at_builtin; refine Lib.wpList_append_own_stringF _ rfl _ _ 45 9 rfl B 5 i0 Tryz.underlying45 Tryz.underlying9 hi hz0 hz1 hz2 _ _ _ rfl hown s rfl ?c3 ?c4 ?c5 ?_)
  case c3 => unfold maxLen; omega
  case c4 => omega
  case c5 => have := hk1.size; omega
  intro v' w2 hown' hgrow _
  have hlt : b < w1.heap.size := (Array.getElem?_eq_some_iff.1 hbk).1
  have hb2 : w2.heap[b]? = some (.cells #[.pointer (some ⟨b, 0, none⟩), v] 47 (0, 0)) := by
    rw [hgrow.block b hlt (fun e => hne e.symm)]
    exact hbk
  have d0 : w2.cell? ⟨b, 0, none⟩ = some (.pointer (some ⟨b, 0, none⟩)) := by rw [Lib.cell_of_heap hb2]; rfl
  have d1 : w2.cell? ⟨b, 1, none⟩ = some v := by rw [Lib.cell_of_heap hb2]; rfl
  have f1 : w2.frozen? ⟨b, 1, none⟩ = false := Lib.frozen_of_heap hb2 1
  obtain ⟨ao, n', cap, rfl⟩ : ∃ ao n' cap, v' = .slice ao n' cap := by
    rcases hown'.2 with ⟨hv, _⟩ | ⟨g, cap, cur, fz, hv, _⟩
    · exact ⟨_, _, _, hv⟩
    · exact ⟨_, _, _, hv⟩
  go_wp2
  go_ret2
  refine ⟨rfl, .inr ?_, ?_⟩
  · rw [← byteCells_append]
    exact Lib.BuilderAtF.put (T := 47) (e := 5) hB hb2 (bs' := Lib.byteCells l ++ Lib.strCells s) (by simpa [Lib.strCells_length] using hown') (by decide)
  · exact ⟨(hk1.1.grown hgrow (by have := hk1.size; omega) (fun k hk => (hown.lt k hk).1)).setCell (p := ⟨b, 1, none⟩) hB _, (hk1.2.grown hgrow (Lib.ownsRowF_kind hown)).setCell ⟨b, 1, none⟩ rfl _⟩

theorem bstring_any (B b : Nat) (l : List UInt8) (w : World) (h : IsB B b l w) (hBw : B ≤ w.heap.size) :
    Calls Tryz.prog 36 #[.pointer (some ⟨b, 0, none⟩)] w fun e w' => e = .returned (.string ⟨l.toArray⟩) ∧ Below B w w' :=
  (Tryz.Builder_String_any_f B b l w h hBw).mono fun _ _ h => ⟨h.1, h.2.2⟩

/-- A block that is no row of bytes and not the builder's stays. -/
theorem BKeep.block {B b k : Nat} {w w' : World} {cs : Array Value} {t : TypeId} {fz : Nat × Nat} (h : BKeep B b w w') (hk : w.heap[k]? = some (.cells cs t fz)) (hb : k ≠ b) (ht : t ≠ 5) : w'.heap[k]? = some (.cells cs t fz) :=
  h.2 k _ hk (by simpa using hb) (fun c f e => by cases e; exact ht rfl)
theorem IsB.fresh (w : World) (t : Value) (h : t = .pointer none) : IsB w.heap.size w.heap.size [] (w.alloc (.cells #[t, .slice none 0 0] 47)) := by
  subst h; exact Lib.IsBuilderF.of (Lib.fresh_isBuilder _ _ w)
end Go.Proofs.YtlpkpkcfgchngaaGreatDoor

namespace Go.Proofs.YtlpkpkcfgchngaaGreatDoor
open Go.RowKit

/-- The library's table lies in the world, below a block. -/
def EnvAt (B : Nat) (w : World) : Prop := Env w ∧ 5 < B
theorem EnvAt.of {w : World} (h : Env w) : EnvAt w.heap.size w := by
  refine ⟨h, ?_⟩
  have hg : Tryz.prog.globalNamed "internal/strconv.uint64pow10" = some 5 := by kernel_rfl
  exact var_lt hg h
theorem EnvAt.kept {B : Nat} {w w' : World} (h : EnvAt B w) (hb : Below B w w') : EnvAt B w' := by
  refine ⟨?_, h.2⟩
  have h1 := h.1
  have hg : Tryz.prog.globalNamed "internal/strconv.uint64pow10" = some 5 := by kernel_rfl
  unfold Env Lib.TabIs World.var? at h1 ⊢
  rw [hg] at h1 ⊢
  simp only [Option.bind_some] at h1 ⊢
  rw [hb.block _ h.2]
  exact h1

/-- What write hands back: the builder holds so much more; nothing else has turned. -/
def WPost (B b : Nat) (l : List UInt8) (w : World) (e : Ending) (w' : World) : Prop := e = .returned (.tuple #[]) ∧ IsB B b l w' ∧ BKeep B b w w'

theorem Box5.bkeep {B b k : Nat} {w w' : World} {c0 c1 c2 c3 c4 : Value} (h : BKeep B b w w') (hk : Box5 w k 24 c0 c1 c2 c3 c4) (hb : k ≠ b) : Box5 w' k 24 c0 c1 c2 c3 c4 := h.block hk hb (by decide)

theorem bkeep_alloc {B b : Nat} {w : World} (hB : B ≤ w.heap.size) (o : Obj) : BKeep B b w (w.alloc o) := BKeep.of_below hB ((Below.refl _ _).alloc (Nat.le_refl _) _)
theorem isB_alloc {B b : Nat} {l : List UInt8} {w : World} (h : IsB B b l w) (o : Obj) : IsB B b l (w.alloc o) := h.below ((Below.refl _ _).alloc (Nat.le_refl _) _)

theorem writeString_to (B b : Nat) (l T : List UInt8) (s : ByteArray) (w : World) (hT : s.data.toList = T) (h : IsB B b l w) (hlen : l.length + T.length ≤ 140737488355328) (hBw : B ≤ w.heap.size) :
    Calls Tryz.prog 59 #[.pointer (some ⟨b, 0, none⟩), .string s] w fun e w' => e = .returned (.tuple #[.int .i64 s.size, .nilIface]) ∧ (IsB B b (l ++ T) w' ∧ BKeep B b w w') := by
  subst hT
  exact writeString_any B b l s w h hlen hBw

section
variable (B b : Nat) (l0 : List UInt8) (n d : Int) (s : ByteArray) (o : Option Addr) (len cap : Nat) (w : World)

set_option maxHeartbeats 2000000 in
set_option maxRecDepth 100000 in
theorem write_0 (hb : IsB B b l0 w) (hB : B ≤ w.heap.size) (hE : EnvAt B w) (h0 : -9223372036854775808 ≤ n) (h1 : n ≤ 9223372036854775807) (h2 : -9223372036854775808 ≤ d) (h3 : d ≤ 9223372036854775807) (T : List UInt8) (hT : Num.text n d = T) (hl : l0.length + T.length ≤ 140737488355328) :
    Calls Tryz.prog 35 #[.pointer (some ⟨b, 0, none⟩), .agg #[.int .i64 0, .int .i64 n, .int .i64 d, .string s, .slice o len cap]] w (WPost B b (l0 ++ T) w) := by
  have HT := Lib.hid (fun W hE => text_any n d h0 h1 h2 h3 W hE)
  rw [hT] at HT
  clear hT
  have HK := Lib.hid (fun X => bkeep_alloc (b := b) hB X)
  have HE := Lib.hid (fun X => hE.kept (HK.out X).1)
  have HB := Lib.hid (fun X => isB_alloc hb X)
  clear hE
  go_enter Tryz.func35, Tryz.ntmps35
  go_wp2_with fail
  refine (HT.out _ (HE.out _).1).mono ?_
  rintro e' w1 ⟨rfl, hb1⟩
  have HB1 := Lib.hid hb1
  clear hb1
  go_wp2_with fail
  refine (writeString_any B b l0 ⟨T.toArray⟩ _ ((HB.out _).below HB1.out) hl (by have := HB1.out.size; simp at this; omega)).mono ?_
  rintro e' w2 ⟨rfl, hb2, hk2⟩
  go_wp2
  go_end0
  exact ⟨rfl, by simpa using hb2, ((HK.out _).trans (BKeep.of_below (by simp; omega) HB1.out)).trans hk2⟩

set_option maxHeartbeats 2000000 in
set_option maxRecDepth 100000 in
theorem write_2 (hb : IsB B b l0 w) (hB : B ≤ w.heap.size) (hl : l0.length + (s.data.toList).length ≤ 140737488355328) :
    Calls Tryz.prog 35 #[.pointer (some ⟨b, 0, none⟩), .agg #[.int .i64 2, .int .i64 n, .int .i64 d, .string s, .slice o len cap]] w (WPost B b (l0 ++ (s.data.toList)) w) := by
  have HK := Lib.hid (fun X => bkeep_alloc (b := b) hB X)
  have HB := Lib.hid (fun X => isB_alloc hb X)
  go_enter Tryz.func35, Tryz.ntmps35
  go_wp2_with fail
  refine (writeString_any B b l0 s _ (HB.out _) hl (by simp; omega)).mono ?_
  rintro e' w2 ⟨rfl, hb2, hk2⟩
  go_wp2
  go_end0
  exact ⟨rfl, by simpa using hb2, (HK.out _).trans hk2⟩

set_option maxHeartbeats 2000000 in
set_option maxRecDepth 100000 in
theorem write_3 (hb : IsB B b l0 w) (hB : B ≤ w.heap.size) (hs : s.size ≤ 140737488351232) (hl : l0.length + (34 :: (s.data.toList ++ [34])).length ≤ 140737488355328) :
    Calls Tryz.prog 35 #[.pointer (some ⟨b, 0, none⟩), .agg #[.int .i64 3, .int .i64 n, .int .i64 d, .string s, .slice o len cap]] w (WPost B b (l0 ++ (34 :: (s.data.toList ++ [34]))) w) := by
  have HK := Lib.hid (fun X => bkeep_alloc (b := b) hB X)
  have HB := Lib.hid (fun X => isB_alloc hb X)
  go_enter Tryz.func35, Tryz.ntmps35
  go_wp2_with fail
  refine (writeString_to B b l0 (34 :: (s.data.toList ++ [34])) _ _ ?_ (HB.out _) hl (by simp; omega)).mono ?_
  · rw [ByteArray.data_append, ByteArray.data_append]; simp
  rintro e' w2 ⟨rfl, hb2, hk2⟩
  go_wp2
  go_end0
  exact ⟨rfl, by simpa using hb2, (HK.out _).trans hk2⟩

set_option maxHeartbeats 2000000 in
set_option maxRecDepth 100000 in
theorem write_4 (hb : IsB B b l0 w) (hB : B ≤ w.heap.size) (hl : l0.length + ([40, 41]).length ≤ 140737488355328) :
    Calls Tryz.prog 35 #[.pointer (some ⟨b, 0, none⟩), .agg #[.int .i64 4, .int .i64 n, .int .i64 d, .string s, .slice o len cap]] w (WPost B b (l0 ++ ([40, 41])) w) := by
  have HK := Lib.hid (fun X => bkeep_alloc (b := b) hB X)
  have HB := Lib.hid (fun X => isB_alloc hb X)
  go_enter Tryz.func35, Tryz.ntmps35
  go_wp2_with fail
  refine (writeString_any B b l0 ⟨#[40, 41]⟩ _ (HB.out _) hl (by simp; omega)).mono ?_
  rintro e' w2 ⟨rfl, hb2, hk2⟩
  go_wp2
  go_end0
  exact ⟨rfl, by simpa using hb2, (HK.out _).trans hk2⟩

set_option maxHeartbeats 2000000 in
set_option maxRecDepth 100000 in
theorem write_5 (hb : IsB B b l0 w) (hB : B ≤ w.heap.size) (hl : l0.length + ([35, 118]).length ≤ 140737488355328) :
    Calls Tryz.prog 35 #[.pointer (some ⟨b, 0, none⟩), .agg #[.int .i64 5, .int .i64 n, .int .i64 d, .string s, .slice o len cap]] w (WPost B b (l0 ++ ([35, 118])) w) := by
  have HK := Lib.hid (fun X => bkeep_alloc (b := b) hB X)
  have HB := Lib.hid (fun X => isB_alloc hb X)
  go_enter Tryz.func35, Tryz.ntmps35
  go_wp2_with fail
  refine (writeString_any B b l0 ⟨#[35, 118]⟩ _ (HB.out _) hl (by simp; omega)).mono ?_
  rintro e' w2 ⟨rfl, hb2, hk2⟩
  go_wp2
  go_end0
  exact ⟨rfl, by simpa using hb2, (HK.out _).trans hk2⟩

set_option maxHeartbeats 2000000 in
set_option maxRecDepth 100000 in
theorem write_1a (hb : IsB B b l0 w) (hB : B ≤ w.heap.size) (hl : l0.length + 2 ≤ 140737488355328) :
    Calls Tryz.prog 35 #[.pointer (some ⟨b, 0, none⟩), .agg #[.int .i64 1, .int .i64 0, .int .i64 d, .string s, .slice o len cap]] w (WPost B b (l0 ++ [35, 102]) w) := by
  have HK := Lib.hid (fun X => bkeep_alloc (b := b) hB X)
  have HB := Lib.hid (fun X => isB_alloc hb X)
  go_enter Tryz.func35, Tryz.ntmps35
  go_wp2_with fail
  refine (writeString_to B b l0 [35, 102] _ _ rfl (isB_alloc (HB.out _) _) hl (by simp; omega)).mono ?_
  rintro e' w2 ⟨rfl, hb2, hk2⟩
  go_wp2
  go_end0
  exact ⟨rfl, by simpa using hb2, ((HK.out _).trans (bkeep_alloc (by simp; omega) _)).trans hk2⟩

set_option maxHeartbeats 2000000 in
set_option maxRecDepth 100000 in
theorem write_1b (hb : IsB B b l0 w) (hB : B ≤ w.heap.size) (hl : l0.length + 2 ≤ 140737488355328) :
    Calls Tryz.prog 35 #[.pointer (some ⟨b, 0, none⟩), .agg #[.int .i64 1, .int .i64 1, .int .i64 d, .string s, .slice o len cap]] w (WPost B b (l0 ++ [35, 116]) w) := by
  have HK := Lib.hid (fun X => bkeep_alloc (b := b) hB X)
  have HB := Lib.hid (fun X => isB_alloc hb X)
  go_enter Tryz.func35, Tryz.ntmps35
  go_wp2_with fail
  refine (writeString_to B b l0 [35, 116] _ _ rfl (isB_alloc (HB.out _) _) hl (by simp; omega)).mono ?_
  rintro e' w2 ⟨rfl, hb2, hk2⟩
  go_wp2
  go_end0
  exact ⟨rfl, by simpa using hb2, ((HK.out _).trans (bkeep_alloc (by simp; omega) _)).trans hk2⟩
end
end Go.Proofs.YtlpkpkcfgchngaaGreatDoor

namespace Go.Proofs.YtlpkpkcfgchngaaGreatDoor
open Go.RowKit

theorem textV_snoc : ∀ (l : List Dat) (x : Dat) (first : Bool), Dat.textV (l ++ [x]) first = Dat.textV l first ++ ((if first && l.isEmpty then [] else [32]) ++ Dat.text x false)
  | [], x, first => by cases first <;> simp [Dat.textV]
  | y :: l, x, first => by
    rw [List.cons_append, Dat.textV, textV_snoc l x false, Dat.textV]
    simp

theorem textV_step {l : List Dat} {j : Nat} {x : Dat} (h : l[j]? = some x) : Dat.textV (l.take (j + 1)) true = Dat.textV (l.take j) true ++ ((if j = 0 then [] else [32]) ++ Dat.text x false) := by
  have hj := (List.getElem?_eq_some_iff.1 h).1
  rw [List.take_add_one, h]
  show Dat.textV (l.take j ++ [x]) true = _
  rw [textV_snoc]
  congr 2
  by_cases h0 : j = 0
  · subst h0; simp
  · have : (l.take j).isEmpty = false := by
      rw [List.isEmpty_eq_false_iff]; intro h1
      have := congrArg List.length h1
      rw [List.length_take, List.length_nil] at this; omega
    simp [this, h0]

theorem textV_append_le : ∀ (a c : List Dat) (first : Bool), (Dat.textV a first).length ≤ (Dat.textV (a ++ c) first).length
  | [], c, first => by simp [Dat.textV]
  | y :: a, c, first => by
    have := textV_append_le a c false
    rw [List.cons_append, Dat.textV, Dat.textV]
    simp only [List.length_append]; omega

theorem textV_take_le (l : List Dat) (j : Nat) : (Dat.textV (l.take j) true).length ≤ (Dat.textV l true).length := by
  have := textV_append_le (l.take j) (l.drop j) true
  rwa [List.take_append_drop] at this

/-- What is known of writing a part. -/
def WritesAll (B b : Nat) (l : List Dat) : Prop := ∀ x ∈ l, ∀ (v : Value) (l1 : List UInt8) (W : World), IsB B b l1 W → RepD W B x v → B ≤ W.heap.size → EnvAt B W → l1.length + (Dat.text x false).length ≤ 140737488355328 →
  Calls Tryz.prog 35 #[.pointer (some ⟨b, 0, none⟩), v] W (WPost B b (l1 ++ Dat.text x false) W)

set_option maxHeartbeats 4000000 in
set_option maxRecDepth 100000 in
theorem write_7 (B b : Nat) (l0 : List UInt8) (n d : Int) (s : ByteArray) (l : List Dat) (sl : Value) (w : World) (hb : IsB B b l0 w) (hB : B ≤ w.heap.size) (hE : EnvAt B w) (hv : RepS w B l sl) (IH : WritesAll B b l)
    (hl : l0.length + ([35, 40] ++ (Dat.textV l true ++ [41])).length ≤ 140737488355328) :
    Calls Tryz.prog 35 #[.pointer (some ⟨b, 0, none⟩), .agg #[.int .i64 7, .int .i64 n, .int .i64 d, .string s, sl]] w (WPost B b (l0 ++ ([35, 40] ++ (Dat.textV l true ++ [41]))) w) := by
  obtain ⟨o, len, cap, rfl, hlen, hcap, hmax, hc⟩ := hv
  have HK := Lib.hid (fun X => bkeep_alloc (b := b) hB X)
  have HB := Lib.hid (fun X => isB_alloc hb X)
  have HE := Lib.hid hE
  have HV := Lib.hid hc
  have HL := Lib.hid hlen
  have HI := Lib.hid IH
  have hbw := hb.lt
  have hbB := hb.base
  have hlen2 : l0.length + 2 + (Dat.textV l true).length + 1 ≤ 140737488355328 := by simp at hl; omega
  clear hE hc hlen IH hl hb
  go_enter Tryz.func35, Tryz.ntmps35
  go_wp2_with fail
  refine (writeString_to B b l0 [35, 40] _ _ rfl (HB.out _) (by simp; omega) (by simp; omega)).mono ?_
  rintro e' w1 ⟨rfl, hb1, hk1⟩
  have hbox := Box5.bkeep hk1 (Box5.new w 24 _ _ _ _ _) (by omega)
  obtain ⟨q0, q1, q2, q3, q4⟩ := hbox.cells
  have HK1 := Lib.hid ((HK.out _).trans hk1)
  have HB1 := Lib.hid hb1
  have HX := Lib.hid hbox
  clear hb1 hk1 hbox
  go_wp2_with fail
  go_loopw [4, 56] (fun t i wr => ∃ (j : Nat), i = .int .i64 j ∧ t = .string (if j = 0 then ⟨#[]⟩ else ⟨#[32]⟩) ∧ j ≤ len ∧ IsB B b (l0 ++ [35, 40] ++ Dat.textV (l.take j) true) wr ∧ BKeep B b w wr) (fun _ i _ => len - (intOf i).toNat)
  case atStart => exact ⟨0, rfl, rfl, by omega, by simpa [Dat.textV] using HB1.out, HK1.out⟩
  case round =>
    obtain ⟨j, rfl, rfl, hj, hbj, hkj⟩ := hrel
    have HBJ := Lib.hid hbj
    have HKJ := Lib.hid hkj
    have hsz := hkj.size
    obtain ⟨S, hS⟩ : ∃ S : ByteArray, (if j = 0 then ⟨#[]⟩ else ⟨#[32]⟩ : ByteArray) = S := ⟨_, rfl⟩
    obtain ⟨U, hU⟩ : ∃ U : List UInt8, (if j = 0 then [] else [32] : List UInt8) = U := ⟨_, rfl⟩
    have hSU : S.data.toList = U := by rw [← hS, ← hU]; split <;> rfl
    rw [hS]
    have HU := Lib.hid hU
    have HSU := Lib.hid hSU
    clear hbj hkj hS hU hSU
    by_cases hjl : j < len
    · obtain ⟨x, hx⟩ : ∃ x, l[j]? = some x := ⟨_, List.getElem?_eq_getElem (by rw [← HL.out]; exact hjl)⟩
      obtain ⟨bb, off, k', n', d', s', l', o', len', cap', ho, hxe, e0, e1, e2, e3, e4, er⟩ := part_at2 HV.out HKJ.out.1 hx
      subst ho hxe
      have HX := Lib.hid hx
      have ER := Lib.hid er
      have hbb := cell_lt e0
      have HS := Lib.hid (textV_step hx)
      have ht1 := textV_take_le l j
      have ht2 := textV_take_le l (j + 1)
      rw [HS.out] at ht2
      simp only [List.length_append] at ht2
      rw [HU.out] at HS ht2
      clear hx er
      go_wp2_with fail
      refine (writeString_to B b _ U _ _ HSU.out (isB_alloc HBJ.out _) (by simp only [List.length_append, List.length_cons, List.length_nil]; omega) (by simp; omega)).mono ?_
      rintro e' w2 ⟨rfl, hb2, hk2⟩
      have hbox2 := Box5.bkeep hk2 (Box5.new wr 24 _ _ _ _ _) (by omega)
      obtain ⟨r0, r1, r2, r3, r4⟩ := hbox2.cells
      have HK2 := Lib.hid ((HKJ.out.trans (bkeep_alloc (by omega) _)).trans hk2)
      have HB2 := Lib.hid hb2
      have HER2 := Lib.hid (ER.out.kept (((bkeep_alloc (b := b) (by omega) _).trans hk2).1))
      clear hb2 hk2 hbox2
      go_wp2_with fail
      have hs2 := HK2.out.size
      refine (HI.out _ (List.mem_of_getElem? HX.out) _ _ _ HB2.out HER2.out (by omega) (HE.out.kept HK2.out.1) (by simp only [List.length_append, List.length_cons, List.length_nil]; omega)).mono ?_
      rintro e' w3 ⟨rfl, hb3, hk3⟩
      go_wp2
      go_roundw
      case rel =>
        refine ⟨j + 1, by go_num, by simp, by omega, ?_, HK2.out.trans hk3⟩
        rw [HS.out]
        simpa using hb3
      case measure => simp [intOf]; omega
    · have HT := Lib.hid (show l.take j = l from List.take_of_length_le (by rw [← HL.out]; omega))
      go_wp2_with fail
      refine (writeString_to B b _ [41] _ _ rfl HBJ.out (by rw [HT.out]; simp only [List.length_append, List.length_cons, List.length_nil]; omega) (by omega)).mono ?_
      rintro e' w2 ⟨rfl, hb2, hk2⟩
      go_wp2
      go_end0
      refine ⟨rfl, ?_, HKJ.out.trans hk2⟩
      rw [HT.out] at hb2
      simpa using hb2
end Go.Proofs.YtlpkpkcfgchngaaGreatDoor

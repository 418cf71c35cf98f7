/-
  The contract of datum.write, kind by kind.
-/
import Derived.Test.YtlpkpkcfgchngaaDoorList
import Derived.Test.YtlpkpkcfgchngaaDoorBuilder
import Derived.Test.YtlpkpkcfgchngaaDoorText
namespace Go.Proofs.YtlpkpkcfgchngaaDoor
open Go.RowKit

/-- The library's table lies in the world, below a block. -/
def EnvAt (B : Nat) (w : World) : Prop := Env w ∧ 3 < B
theorem EnvAt.of {w : World} (h : Env w) : EnvAt w.heap.size w := by
  refine ⟨h, ?_⟩
  have hg : Tryd.prog.globalNamed "internal/strconv.uint64pow10" = some 3 := by kernel_rfl
  exact var_lt hg h
theorem EnvAt.kept {B : Nat} {w w' : World} (h : EnvAt B w) (hb : Below B w w') : EnvAt B w' := by
  refine ⟨?_, h.2⟩
  have h1 := h.1
  have hg : Tryd.prog.globalNamed "internal/strconv.uint64pow10" = some 3 := by kernel_rfl
  unfold Env Lib.TabIs World.var? at h1 ⊢
  rw [hg] at h1 ⊢
  simp only [Option.bind_some] at h1 ⊢
  rw [hb.block _ h.2]
  exact h1

/-- What write hands back: the builder holds so much more; nothing else has turned. -/
def WPost (B b : Nat) (l : List UInt8) (w : World) (e : Ending) (w' : World) : Prop := e = .returned (.tuple #[]) ∧ IsB B b l w' ∧ BKeep B b w w'

theorem Box5.bkeep {B b k : Nat} {w w' : World} {c0 c1 c2 c3 c4 : Value} (h : BKeep B b w w') (hk : Box5 w k 24 c0 c1 c2 c3 c4) (hb : k ≠ b) : Box5 w' k 24 c0 c1 c2 c3 c4 := h.block hk hb (by decide)

theorem bkeep_alloc {B b : Nat} {w : World} (hB : B ≤ w.heap.size) (o : Obj) : BKeep B b w (w.alloc o) := BKeep.of_below hB ((Below.refl _ _).alloc (Nat.le_refl _) _)
theorem isB_alloc {B b : Nat} {l : List UInt8} {w : World} (h : IsB B b l w) (o : Obj) : IsB B b l (w.alloc o) := h.below ((Below.refl _ _).alloc (Nat.le_refl _) _)

theorem writeString_to (B b : Nat) (l T : List UInt8) (s : ByteArray) (w : World) (hT : s.data.toList = T) (h : IsB B b l w) (hlen : l.length + T.length ≤ 140737488355328) (hBw : B ≤ w.heap.size) :
    Calls Tryd.prog 30 #[.pointer (some ⟨b, 0, none⟩), .string s] w fun e w' => e = .returned (.tuple #[.int .i64 s.size, .nilIface]) ∧ (IsB B b (l ++ T) w' ∧ BKeep B b w w') := by
  subst hT
  exact writeString_any B b l s w h hlen hBw

section
variable (B b : Nat) (l0 : List UInt8) (n d : Int) (s : ByteArray) (o : Option Addr) (len cap : Nat) (w : World)

set_option maxHeartbeats 2000000 in
set_option maxRecDepth 100000 in
theorem write_0 (hb : IsB B b l0 w) (hB : B ≤ w.heap.size) (hE : EnvAt B w) (h0 : -9223372036854775808 ≤ n) (h1 : n ≤ 9223372036854775807) (h2 : -9223372036854775808 ≤ d) (h3 : d ≤ 9223372036854775807) (T : List UInt8) (hT : Num.text n d = T) (hl : l0.length + T.length ≤ 140737488355328) :
    Calls Tryd.prog 20 #[.pointer (some ⟨b, 0, none⟩), .agg #[.int .i64 0, .int .i64 n, .int .i64 d, .string s, .slice o len cap]] w (WPost B b (l0 ++ T) w) := by
  have HT := Lib.hid (fun W hE => text_any n d h0 h1 h2 h3 W hE)
  rw [hT] at HT
  clear hT
  have HK := Lib.hid (fun X => bkeep_alloc (b := b) hB X)
  have HE := Lib.hid (fun X => hE.kept (HK.out X).1)
  have HB := Lib.hid (fun X => isB_alloc hb X)
  clear hE
  go_enter Tryd.func20, Tryd.ntmps20
  go_wp2_with fail
  refine (HT.out _ (HE.out _).1).mono ?_
  rintro e' w1 ⟨rfl, hb1⟩
  have HB1 := Lib.hid hb1
  clear hb1
  go_wp2_with fail
  refine (writeString_any B b l0 ⟨T.toArray⟩ _ ((HB.out _).below HB1.out) hl (by have := HB1.out.size; simp at this; omega)).mono ?_
  rintro e' w2 ⟨rfl, hb2, hk2⟩
  go_wp2
  go_end0
  exact ⟨rfl, by simpa using hb2, ((HK.out _).trans (BKeep.of_below (by simp; omega) HB1.out)).trans hk2⟩

set_option maxHeartbeats 2000000 in
set_option maxRecDepth 100000 in
theorem write_2 (hb : IsB B b l0 w) (hB : B ≤ w.heap.size) (hl : l0.length + (s.data.toList).length ≤ 140737488355328) :
    Calls Tryd.prog 20 #[.pointer (some ⟨b, 0, none⟩), .agg #[.int .i64 2, .int .i64 n, .int .i64 d, .string s, .slice o len cap]] w (WPost B b (l0 ++ (s.data.toList)) w) := by
  have HK := Lib.hid (fun X => bkeep_alloc (b := b) hB X)
  have HB := Lib.hid (fun X => isB_alloc hb X)
  go_enter Tryd.func20, Tryd.ntmps20
  go_wp2_with fail
  refine (writeString_any B b l0 s _ (HB.out _) hl (by simp; omega)).mono ?_
  rintro e' w2 ⟨rfl, hb2, hk2⟩
  go_wp2
  go_end0
  exact ⟨rfl, by simpa using hb2, (HK.out _).trans hk2⟩

set_option maxHeartbeats 2000000 in
set_option maxRecDepth 100000 in
theorem write_3 (hb : IsB B b l0 w) (hB : B ≤ w.heap.size) (hs : s.size ≤ 140737488351232) (hl : l0.length + (34 :: (s.data.toList ++ [34])).length ≤ 140737488355328) :
    Calls Tryd.prog 20 #[.pointer (some ⟨b, 0, none⟩), .agg #[.int .i64 3, .int .i64 n, .int .i64 d, .string s, .slice o len cap]] w (WPost B b (l0 ++ (34 :: (s.data.toList ++ [34]))) w) := by
  have HK := Lib.hid (fun X => bkeep_alloc (b := b) hB X)
  have HB := Lib.hid (fun X => isB_alloc hb X)
  go_enter Tryd.func20, Tryd.ntmps20
  go_wp2_with fail
  refine (writeString_to B b l0 (34 :: (s.data.toList ++ [34])) _ _ ?_ (HB.out _) hl (by simp; omega)).mono ?_
  · rw [ByteArray.data_append, ByteArray.data_append]; simp
  rintro e' w2 ⟨rfl, hb2, hk2⟩
  go_wp2
  go_end0
  exact ⟨rfl, by simpa using hb2, (HK.out _).trans hk2⟩

set_option maxHeartbeats 2000000 in
set_option maxRecDepth 100000 in
theorem write_4 (hb : IsB B b l0 w) (hB : B ≤ w.heap.size) (hl : l0.length + ([40, 41]).length ≤ 140737488355328) :
    Calls Tryd.prog 20 #[.pointer (some ⟨b, 0, none⟩), .agg #[.int .i64 4, .int .i64 n, .int .i64 d, .string s, .slice o len cap]] w (WPost B b (l0 ++ ([40, 41])) w) := by
  have HK := Lib.hid (fun X => bkeep_alloc (b := b) hB X)
  have HB := Lib.hid (fun X => isB_alloc hb X)
  go_enter Tryd.func20, Tryd.ntmps20
  go_wp2_with fail
  refine (writeString_any B b l0 ⟨#[40, 41]⟩ _ (HB.out _) hl (by simp; omega)).mono ?_
  rintro e' w2 ⟨rfl, hb2, hk2⟩
  go_wp2
  go_end0
  exact ⟨rfl, by simpa using hb2, (HK.out _).trans hk2⟩

set_option maxHeartbeats 2000000 in
set_option maxRecDepth 100000 in
theorem write_5 (hb : IsB B b l0 w) (hB : B ≤ w.heap.size) (hl : l0.length + ([35, 118]).length ≤ 140737488355328) :
    Calls Tryd.prog 20 #[.pointer (some ⟨b, 0, none⟩), .agg #[.int .i64 5, .int .i64 n, .int .i64 d, .string s, .slice o len cap]] w (WPost B b (l0 ++ ([35, 118])) w) := by
  have HK := Lib.hid (fun X => bkeep_alloc (b := b) hB X)
  have HB := Lib.hid (fun X => isB_alloc hb X)
  go_enter Tryd.func20, Tryd.ntmps20
  go_wp2_with fail
  refine (writeString_any B b l0 ⟨#[35, 118]⟩ _ (HB.out _) hl (by simp; omega)).mono ?_
  rintro e' w2 ⟨rfl, hb2, hk2⟩
  go_wp2
  go_end0
  exact ⟨rfl, by simpa using hb2, (HK.out _).trans hk2⟩

set_option maxHeartbeats 2000000 in
set_option maxRecDepth 100000 in
theorem write_1a (hb : IsB B b l0 w) (hB : B ≤ w.heap.size) (hl : l0.length + 2 ≤ 140737488355328) :
    Calls Tryd.prog 20 #[.pointer (some ⟨b, 0, none⟩), .agg #[.int .i64 1, .int .i64 0, .int .i64 d, .string s, .slice o len cap]] w (WPost B b (l0 ++ [35, 102]) w) := by
  have HK := Lib.hid (fun X => bkeep_alloc (b := b) hB X)
  have HB := Lib.hid (fun X => isB_alloc hb X)
  go_enter Tryd.func20, Tryd.ntmps20
  go_wp2_with fail
  refine (writeString_to B b l0 [35, 102] _ _ rfl (isB_alloc (HB.out _) _) hl (by simp; omega)).mono ?_
  rintro e' w2 ⟨rfl, hb2, hk2⟩
  go_wp2
  go_end0
  exact ⟨rfl, by simpa using hb2, ((HK.out _).trans (bkeep_alloc (by simp; omega) _)).trans hk2⟩

set_option maxHeartbeats 2000000 in
set_option maxRecDepth 100000 in
theorem write_1b (hb : IsB B b l0 w) (hB : B ≤ w.heap.size) (hl : l0.length + 2 ≤ 140737488355328) :
    Calls Tryd.prog 20 #[.pointer (some ⟨b, 0, none⟩), .agg #[.int .i64 1, .int .i64 1, .int .i64 d, .string s, .slice o len cap]] w (WPost B b (l0 ++ [35, 116]) w) := by
  have HK := Lib.hid (fun X => bkeep_alloc (b := b) hB X)
  have HB := Lib.hid (fun X => isB_alloc hb X)
  go_enter Tryd.func20, Tryd.ntmps20
  go_wp2_with fail
  refine (writeString_to B b l0 [35, 116] _ _ rfl (isB_alloc (HB.out _) _) hl (by simp; omega)).mono ?_
  rintro e' w2 ⟨rfl, hb2, hk2⟩
  go_wp2
  go_end0
  exact ⟨rfl, by simpa using hb2, ((HK.out _).trans (bkeep_alloc (by simp; omega) _)).trans hk2⟩
end
end Go.Proofs.YtlpkpkcfgchngaaDoor

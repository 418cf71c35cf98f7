/-
  The contract of datum.write: a Pair; datum.write, datum.Text.
-/
import Derived.Test.YtdlhocghiaghfaaGreatDoorWrites
import Derived.Test.YtdlhocghiaghfaaGreatDoorRights
import Derived.Deep.LoopGhost
namespace Go.Proofs.YtdlhocghiaghfaaGreatDoor
open Go.RowKit

theorem set5_bkeep {B b H : Nat} {w W : World} (h : BKeep B b w W) (hH : w.heap.size ≤ H) (hB : B ≤ H) (d0 d1 d2 d3 d4 : Value) : BKeep B b w (set5 W H d0 d1 d2 d3 d4) :=
  ⟨h.1.trans (set5_below _ _ _ _ _ _ _ _ hB), fun k o hk hb ho => (set5_heap _ _ _ _ _ _ _ (by have := (Array.getElem?_eq_some_iff.1 hk).1; omega)).trans (h.2 k o hk hb ho)⟩

/-- A right Pair. -/
theorem right_pair {n d : Int} {s : ByteArray} {l : List Dat} {deep : Nat} (h : Dat.right (.mk 6 n d s l) deep = true) : ∃ a c, l = [a, c] ∧ n = 0 ∧ d = 0 ∧ s = ⟨#[]⟩ ∧ Dat.right a 0 = true ∧ Dat.right c 0 = true := by
  have h2 := h
  simp [Dat.right, Dat.head] at h
  obtain ⟨_, ⟨hd, hn, hs, hl⟩, _⟩ := h
  match l, hl with
  | [a, c], _ =>
    refine ⟨a, c, rfl, hn, hd, ?_, Dat.right_part h2 (by simp [Dat.l]), Dat.right_part h2 (by simp [Dat.l])⟩
    exact ByteArray.ext hs

theorem part_0 {w wr : World} {B : Nat} {a c : Dat} {o : Option Addr} {len cap : Nat} (h : RepS w B [a, c] (.slice o len cap)) (hb : Below B w wr) :
    ∃ b off k n d s l' o' len' cap', o = some ⟨b, off, none⟩ ∧ a = .mk k n d s l' ∧ wr.cell? ⟨b, off, none⟩ = some (.int .i64 k) ∧ wr.cell? ⟨b, off + 1, none⟩ = some (.int .i64 n) ∧ wr.cell? ⟨b, off + 2, none⟩ = some (.int .i64 d) ∧
      wr.cell? ⟨b, off + 3, none⟩ = some (.string s) ∧ wr.cell? ⟨b, off + 4, none⟩ = some (.slice o' len' cap') ∧ RepD wr B (.mk k n d s l') (.agg #[.int .i64 k, .int .i64 n, .int .i64 d, .string s, .slice o' len' cap']) := by
  obtain ⟨o2, len2, cap2, he, _, _, _, h2⟩ := h
  simp only [Value.slice.injEq] at he
  obtain ⟨rfl, rfl, rfl⟩ := he
  have := part_at2 (j := 0) (x := a) h2 hb rfl
  simpa using this
theorem part_1 {w wr : World} {B : Nat} {a c : Dat} {o : Option Addr} {len cap : Nat} (h : RepS w B [a, c] (.slice o len cap)) (hb : Below B w wr) :
    ∃ b off k n d s l' o' len' cap', o = some ⟨b, off, none⟩ ∧ c = .mk k n d s l' ∧ wr.cell? ⟨b, off + 5, none⟩ = some (.int .i64 k) ∧ wr.cell? ⟨b, off + 6, none⟩ = some (.int .i64 n) ∧ wr.cell? ⟨b, off + 7, none⟩ = some (.int .i64 d) ∧
      wr.cell? ⟨b, off + 8, none⟩ = some (.string s) ∧ wr.cell? ⟨b, off + 9, none⟩ = some (.slice o' len' cap') ∧ RepD wr B (.mk k n d s l') (.agg #[.int .i64 k, .int .i64 n, .int .i64 d, .string s, .slice o' len' cap']) := by
  obtain ⟨o2, len2, cap2, he, _, _, _, h2⟩ := h
  simp only [Value.slice.injEq] at he
  obtain ⟨rfl, rfl, rfl⟩ := he
  have := part_at2 (j := 1) (x := c) h2 hb rfl
  simpa using this

theorem text_tail6 (n d : Int) (s : ByteArray) (a c : Dat) : Dat.text (.mk 6 n d s [a, c]) true = 32 :: (Dat.text a false ++ Dat.text c true) := by
  rw [Dat.text, if_pos rfl, Dat.textP]; rfl
theorem text_tail4 (n d : Int) (s : ByteArray) (l : List Dat) : Dat.text (.mk 4 n d s l) true = [] := by
  rw [Dat.text, if_neg (by omega)]; rfl
theorem text_tail (k n d : Int) (s : ByteArray) (l : List Dat) (h6 : ¬ k = 6) (h4 : ¬ k = 4) : Dat.text (.mk k n d s l) true = [32, 46, 32] ++ Dat.text (.mk k n d s l) false := by
  rw [Dat.text, Dat.text, if_neg h6, if_neg h6, if_pos rfl, if_neg h4]; rfl

end Go.Proofs.YtdlhocghiaghfaaGreatDoor

namespace Go.Proofs.YtdlhocghiaghfaaGreatDoor
open Go.RowKit

/-- The ways in which a head is right. -/
theorem head_ways {k n d : Int} {s : List UInt8} {len : Nat} (h : Dat.head k n d s len = true) :
    (k = 0 ∧ Num.right n d = true) ∨ (k = 1 ∧ (n = 0 ∨ n = 1)) ∨ k = 2 ∨ k = 3 ∨ k = 4 ∨ k = 5 ∨ (k = 6 ∧ len = 2) ∨ k = 7 := by
  unfold Dat.head at h
  by_cases k0 : k = 0
  · rw [if_pos k0] at h; simp only [Bool.and_eq_true] at h; exact .inl ⟨k0, h.1⟩
  rw [if_neg k0] at h
  by_cases k1 : k = 1
  · rw [if_pos k1] at h; simp only [Bool.and_eq_true, decide_eq_true_eq] at h; exact .inr (.inl ⟨k1, h.2.1⟩)
  rw [if_neg k1] at h
  by_cases k2 : k = 2
  · exact .inr (.inr (.inl k2))
  rw [if_neg k2] at h
  by_cases k3 : k = 3
  · exact .inr (.inr (.inr (.inl k3)))
  rw [if_neg k3] at h
  by_cases k4 : k = 4
  · exact .inr (.inr (.inr (.inr (.inl k4))))
  by_cases k5 : k = 5
  · exact .inr (.inr (.inr (.inr (.inr (.inl k5)))))
  rw [if_neg (by omega)] at h
  by_cases k6 : k = 6
  · rw [if_pos k6] at h; simp only [Bool.and_eq_true, decide_eq_true_eq] at h; exact .inr (.inr (.inr (.inr (.inr (.inr (.inl ⟨k6, h.2.2.2⟩))))))
  rw [if_neg k6] at h
  by_cases k7 : k = 7
  · exact .inr (.inr (.inr (.inr (.inr (.inr (.inr k7))))))
  rw [if_neg k7] at h; cases h

/-- datum.Text, as a list of bytes. -/
def Dat.full (x : Dat) : List UInt8 := if Dat.right x 0 then Dat.text x false else []

end Go.Proofs.YtdlhocghiaghfaaGreatDoor

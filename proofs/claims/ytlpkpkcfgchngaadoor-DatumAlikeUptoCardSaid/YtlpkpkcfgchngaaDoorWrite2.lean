/-
  The contract of datum.write: a Vec.
-/
import Derived.Test.YtlpkpkcfgchngaaDoorWrite
namespace Go.Proofs.YtlpkpkcfgchngaaDoor
open Go.RowKit

theorem textV_snoc : ∀ (l : List Dat) (x : Dat) (first : Bool), Dat.textV (l ++ [x]) first = Dat.textV l first ++ ((if first && l.isEmpty then [] else [32]) ++ Dat.text x false)
  | [], x, first => by cases first <;> simp [Dat.textV]
  | y :: l, x, first => by
    rw [List.cons_append, Dat.textV, textV_snoc l x false, Dat.textV]
    simp

theorem textV_step {l : List Dat} {j : Nat} {x : Dat} (h : l[j]? = some x) : Dat.textV (l.take (j + 1)) true = Dat.textV (l.take j) true ++ ((if j = 0 then [] else [32]) ++ Dat.text x false) := by
  have hj := (List.getElem?_eq_some_iff.1 h).1
  rw [List.take_add_one, h]
  show Dat.textV (l.take j ++ [x]) true = _
  rw [textV_snoc]
  congr 2
  by_cases h0 : j = 0
  · subst h0; simp
  · have : (l.take j).isEmpty = false := by
      rw [List.isEmpty_eq_false_iff]; intro h1
      have := congrArg List.length h1
      rw [List.length_take, List.length_nil] at this; omega
    simp [this, h0]

theorem textV_append_le : ∀ (a c : List Dat) (first : Bool), (Dat.textV a first).length ≤ (Dat.textV (a ++ c) first).length
  | [], c, first => by simp [Dat.textV]
  | y :: a, c, first => by
    have := textV_append_le a c false
    rw [List.cons_append, Dat.textV, Dat.textV]
    simp only [List.length_append]; omega

theorem textV_take_le (l : List Dat) (j : Nat) : (Dat.textV (l.take j) true).length ≤ (Dat.textV l true).length := by
  have := textV_append_le (l.take j) (l.drop j) true
  rwa [List.take_append_drop] at this

/-- What is known of writing a part. -/
def WritesAll (B b : Nat) (l : List Dat) : Prop := ∀ x ∈ l, ∀ (v : Value) (l1 : List UInt8) (W : World), IsB B b l1 W → RepD W B x v → B ≤ W.heap.size → EnvAt B W → l1.length + (Dat.text x false).length ≤ 140737488355328 →
  Calls Tryd.prog 20 #[.pointer (some ⟨b, 0, none⟩), v] W (WPost B b (l1 ++ Dat.text x false) W)

set_option maxHeartbeats 4000000 in
set_option maxRecDepth 100000 in
theorem write_7 (B b : Nat) (l0 : List UInt8) (n d : Int) (s : ByteArray) (l : List Dat) (sl : Value) (w : World) (hb : IsB B b l0 w) (hB : B ≤ w.heap.size) (hE : EnvAt B w) (hv : RepS w B l sl) (IH : WritesAll B b l)
    (hl : l0.length + ([35, 40] ++ (Dat.textV l true ++ [41])).length ≤ 140737488355328) :
    Calls Tryd.prog 20 #[.pointer (some ⟨b, 0, none⟩), .agg #[.int .i64 7, .int .i64 n, .int .i64 d, .string s, sl]] w (WPost B b (l0 ++ ([35, 40] ++ (Dat.textV l true ++ [41]))) w) := by
  obtain ⟨o, len, cap, rfl, hlen, hcap, hmax, hc⟩ := hv
  have HK := Lib.hid (fun X => bkeep_alloc (b := b) hB X)
  have HB := Lib.hid (fun X => isB_alloc hb X)
  have HE := Lib.hid hE
  have HV := Lib.hid hc
  have HL := Lib.hid hlen
  have HI := Lib.hid IH
  have hbw := hb.lt
  have hbB := hb.base
  have hlen2 : l0.length + 2 + (Dat.textV l true).length + 1 ≤ 140737488355328 := by simp at hl; omega
  clear hE hc hlen IH hl hb
  go_enter Tryd.func20, Tryd.ntmps20
  go_wp2_with fail
  refine (writeString_to B b l0 [35, 40] _ _ rfl (HB.out _) (by simp; omega) (by simp; omega)).mono ?_
  rintro e' w1 ⟨rfl, hb1, hk1⟩
  have hbox := Box5.bkeep hk1 (Box5.new w 24 _ _ _ _ _) (by omega)
  obtain ⟨q0, q1, q2, q3, q4⟩ := hbox.cells
  have HK1 := Lib.hid ((HK.out _).trans hk1)
  have HB1 := Lib.hid hb1
  have HX := Lib.hid hbox
  clear hb1 hk1 hbox
  go_wp2_with fail
  go_loopw [4, 56] (fun t i wr => ∃ (j : Nat), i = .int .i64 j ∧ t = .string (if j = 0 then ⟨#[]⟩ else ⟨#[32]⟩) ∧ j ≤ len ∧ IsB B b (l0 ++ [35, 40] ++ Dat.textV (l.take j) true) wr ∧ BKeep B b w wr) (fun _ i _ => len - (intOf i).toNat)
  case atStart => exact ⟨0, rfl, rfl, by omega, by simpa [Dat.textV] using HB1.out, HK1.out⟩
  case round =>
    obtain ⟨j, rfl, rfl, hj, hbj, hkj⟩ := hrel
    have HBJ := Lib.hid hbj
    have HKJ := Lib.hid hkj
    have hsz := hkj.size
    obtain ⟨S, hS⟩ : ∃ S : ByteArray, (if j = 0 then ⟨#[]⟩ else ⟨#[32]⟩ : ByteArray) = S := ⟨_, rfl⟩
    obtain ⟨U, hU⟩ : ∃ U : List UInt8, (if j = 0 then [] else [32] : List UInt8) = U := ⟨_, rfl⟩
    have hSU : S.data.toList = U := by rw [← hS, ← hU]; split <;> rfl
    rw [hS]
    have HU := Lib.hid hU
    have HSU := Lib.hid hSU
    clear hbj hkj hS hU hSU
    by_cases hjl : j < len
    · obtain ⟨x, hx⟩ : ∃ x, l[j]? = some x := ⟨_, List.getElem?_eq_getElem (by rw [← HL.out]; exact hjl)⟩
      obtain ⟨bb, off, k', n', d', s', l', o', len', cap', ho, hxe, e0, e1, e2, e3, e4, er⟩ := part_at2 HV.out HKJ.out.1 hx
      subst ho hxe
      have HX := Lib.hid hx
      have ER := Lib.hid er
      have hbb := cell_lt e0
      have HS := Lib.hid (textV_step hx)
      have ht1 := textV_take_le l j
      have ht2 := textV_take_le l (j + 1)
      rw [HS.out] at ht2
      simp only [List.length_append] at ht2
      rw [HU.out] at HS ht2
      clear hx er
      go_wp2_with fail
      refine (writeString_to B b _ U _ _ HSU.out (isB_alloc HBJ.out _) (by simp only [List.length_append, List.length_cons, List.length_nil]; omega) (by simp; omega)).mono ?_
      rintro e' w2 ⟨rfl, hb2, hk2⟩
      have hbox2 := Box5.bkeep hk2 (Box5.new wr 24 _ _ _ _ _) (by omega)
      obtain ⟨r0, r1, r2, r3, r4⟩ := hbox2.cells
      have HK2 := Lib.hid ((HKJ.out.trans (bkeep_alloc (by omega) _)).trans hk2)
      have HB2 := Lib.hid hb2
      have HER2 := Lib.hid (ER.out.kept (((bkeep_alloc (b := b) (by omega) _).trans hk2).1))
      clear hb2 hk2 hbox2
      go_wp2_with fail
      have hs2 := HK2.out.size
      refine (HI.out _ (List.mem_of_getElem? HX.out) _ _ _ HB2.out HER2.out (by omega) (HE.out.kept HK2.out.1) (by simp only [List.length_append, List.length_cons, List.length_nil]; omega)).mono ?_
      rintro e' w3 ⟨rfl, hb3, hk3⟩
      go_wp2
      go_roundw
      case rel =>
        refine ⟨j + 1, by go_num, by simp, by omega, ?_, HK2.out.trans hk3⟩
        rw [HS.out]
        simpa using hb3
      case measure => simp [intOf]; omega
    · have HT := Lib.hid (show l.take j = l from List.take_of_length_le (by rw [← HL.out]; omega))
      go_wp2_with fail
      refine (writeString_to B b _ [41] _ _ rfl HBJ.out (by rw [HT.out]; simp only [List.length_append, List.length_cons, List.length_nil]; omega) (by omega)).mono ?_
      rintro e' w2 ⟨rfl, hb2, hk2⟩
      go_wp2
      go_end0
      refine ⟨rfl, ?_, HKJ.out.trans hk2⟩
      rw [HT.out] at hb2
      simpa using hb2
end Go.Proofs.YtlpkpkcfgchngaaDoor

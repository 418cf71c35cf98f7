/-
  What the proofs lean on: RRightW.
-/
import Derived.Deep.Cut
import Derived.Deep.CutRange
import Derived.Test.YtigkhmppnnljiaaGreatDoorPreA09
set_option maxRecDepth 100000
set_option maxHeartbeats 16000000
namespace Go.Proofs.YtigkhmppnnljiaaGreatDoor
section
open Go.RowKit
theorem rname_to (s : ByteArray) (r : Bool) (hr : Dat.name s.data.toList = r) (hs : s.size ≤ 140737488351232) (w : World) :
  Calls Tryz.prog 98 #[.string s] w fun e w' => e = .returned (.bool r) ∧ Below w.heap.size w w' := by
 rw [← hr]; exact rname_any s hs w
def Uno (w : World) (cs : Array Value) (t : TypeId) (w' : World) : Prop := Below (w.heap.size + 1) (w.alloc (.cells cs t)) w'
theorem Uno.refl (w : World) (cs : Array Value) (t : TypeId) : Uno w cs t (w.alloc (.cells cs t)) := Below.refl _ _
theorem Uno.drewN {w w' : World} {cs : Array Value} {t : TypeId} (h : Uno w cs t w') (n : Nat) : Uno w cs t (w'.drewN n) := Below.drewN h n
theorem Uno.size {w w' : World} {cs : Array Value} {t : TypeId} (h : Uno w cs t w') : w.heap.size + 1 ≤ w'.heap.size := by
 have := Below.size h; simpa using this
theorem Uno.next {w w' w2 : World} {cs : Array Value} {t : TypeId} (h : Uno w cs t w') (h2 : Below w'.heap.size w' w2) : Uno w cs t w2 :=
 Below.trans h (h2.mono h.size)
theorem Uno.below {w w' : World} {cs : Array Value} {t : TypeId} (h : Uno w cs t w') : Below w.heap.size w w' :=
 ((Below.refl w.heap.size w).alloc (Nat.le_refl _) _).trans (Below.mono h (by omega))
theorem Uno.cell {w w' : World} {cs : Array Value} {t : TypeId} (h : Uno w cs t w') (i : Nat) {v : Value} (hv : cs[i]? = some v) : w'.cell? ⟨w.heap.size, i, none⟩ = some v :=
 (Below.cell (p := ⟨w.heap.size, i, none⟩) h (by simp)).trans (box_cell _ _ _ _ hv)
theorem strByte_iff (b : UInt8) : Dat.strByte b = true ↔ (32 ≤ b.toNat ∧ b.toNat ≤ 126 ∧ b.toNat ≠ 34 ∧ b.toNat ≠ 92) := by
 simp only [Dat.strByte, Bool.and_eq_true, decide_eq_true_eq]
theorem rightL_all (l : List Dat) (deep : Nat) : Dat.rightL l deep = l.all fun x => Dat.right x deep := by
 induction l with
 | nil => rfl
 | cons x l ih => rw [Dat.rightL, List.all_cons, ih]
theorem rdatum_any : ∀ (x : Dat) (v : Value) (deep : Nat) (B : Nat) (w : World), RepD w B x v → B ≤ w.heap.size → deep ≤ 201 →
  Calls Tryz.prog 65 #[v, .int .i64 deep] w fun e w' => e = .returned (.bool (Dat.right x deep)) ∧ Below w.heap.size w w' := by
 intro x
 induction x using Dat.ind with
 | h k n d s l ih =>
  intro v deep B w hv hB hdeep
  obtain ⟨sl, rfl, bk, bn, bd, bs, hs⟩ := hv.open
  obtain ⟨o, len, cap, rfl, hl, hcap, hmax, hc⟩ := hs
  obtain ⟨r, hr⟩ : ∃ r, Dat.right (.mk k n d s l) deep = r := ⟨_, rfl⟩
  rw [hr]
  rw [Dat.right, rightL_all] at hr
  have HIH := Lib.hid ih
  have HC := Lib.hid hc
  have HL := Lib.hid hl
  have HR := Lib.hid hr
  have HNO := Lib.hid (show Dat.head k n d s.data.toList l.length = false → false = r from fun h => by rw [← hr, h]; simp)
  have HK := Lib.hid (fun X => (Below.refl w.heap.size w).alloc (Nat.le_refl _) X)
  have HU := Lib.hid (Uno.refl w #[.int .i64 k, .int .i64 n, .int .i64 d, .string s, .slice o len cap] 60)
  have HBB := Lib.hid hB
  clear ih hv hc hr hl hB
  by_cases h200 : 200 < deep
  ·have HF := Lib.hid (show false = r by rw [← HR.out, decide_eq_false (by omega)]; simp)
   go_enter Tryz.func65, Tryz.ntmps65
   go_wp2_with fail
   go_ret
   exact ⟨ret_bool HF.out, HK.out _⟩
  by_cases hk0 : k < 0
  ·have HF := Lib.hid (HNO.out (by rw [← Bool.not_eq_true, head_iff]; rintro ⟨a0, a1, a2, a3, a4, a5, a6, a7, a8, a9⟩; omega))
   go_enter Tryz.func65, Tryz.ntmps65
   go_wp2_with fail
   all_goals go_ret
   all_goals exact ⟨ret_bool HF.out, by first | exact HK.out _ | exact Below.drewN (HK.out _) _ | fail⟩
  by_cases hk7 : 7 < k
  ·have HF := Lib.hid (HNO.out (by rw [← Bool.not_eq_true, head_iff]; rintro ⟨a0, a1, a2, a3, a4, a5, a6, a7, a8, a9⟩; omega))
   go_enter Tryz.func65, Tryz.ntmps65
   go_wp2_with fail
   all_goals go_ret
   all_goals exact ⟨ret_bool HF.out, by first | exact HK.out _ | exact Below.drewN (HK.out _) _ | fail⟩
  have h200b : decide (200 < (deep : Int)) = false := decide_eq_false (by omega)
  obtain ⟨g3, hg3⟩ : ∃ g, decide ((k = 0 → Num.right n d = true) ∧ (k ≠ 0 → d = 0)) = g := ⟨_, rfl⟩
  have HG := Lib.hid hg3
  clear hg3
  go_enter Tryz.func65, Tryz.ntmps65
  go_upto_region 3 with fail
  go_cut [39] from 7 (fun c wx => c = .bool (!g3) ∧ Uno w #[.int .i64 k, .int .i64 n, .int .i64 d, .string s, .slice o len cap] 60 wx)
  case first => as_aux_lemma =>
   by_cases hz : k = 0
   ·subst hz
    obtain ⟨q, hq⟩ : ∃ q, Num.right n d = q := ⟨_, rfl⟩
    have HQ := Lib.hid hq
    cases q with
    | false =>
     have hgg : g3 = false := by rw [← HG.out]; exact decide_eq_false (by rintro ⟨a, _⟩; rw [a rfl] at hq; cases hq)
     subst hgg
     go_wp2_with (first | (go_at_call 97; refine (rright_to n d false HQ.out bn.1 bn.2 bd.1 bd.2 _).mono ?_; rintro e1 w1 ⟨rfl, nk, rfl⟩) | fail)
     all_goals go_meet
     all_goals exact ⟨rfl, by first | exact HU.out | exact HU.out.drew | exact Uno.drewN HU.out _ | exact HU.out.next hb1 | fail⟩
    | true =>
     have hgg : g3 = true := by rw [← HG.out]; exact decide_eq_true ⟨fun _ => hq, fun h => absurd rfl h⟩
     subst hgg
     go_wp2_with (first | (go_at_call 97; refine (rright_to n d true HQ.out bn.1 bn.2 bd.1 bd.2 _).mono ?_; rintro e1 w1 ⟨rfl, nk, rfl⟩) | fail)
     all_goals go_meet
     all_goals exact ⟨rfl, by first | exact HU.out | exact HU.out.drew | exact Uno.drewN HU.out _ | exact HU.out.next hb1 | fail⟩
   ·have hz2 : (k == 0) = false := by simpa using hz
    have hz3 : (k != 0) = true := by simpa using hz
    by_cases hd : d = 0
    ·subst hd
     have hgg : g3 = true := by rw [← HG.out]; exact decide_eq_true ⟨fun h => absurd h hz, fun _ => rfl⟩
     subst hgg
     go_wp2_with fail
     all_goals go_meet
     all_goals exact ⟨rfl, by first | exact HU.out | exact HU.out.drew | exact Uno.drewN HU.out _ | exact HU.out.next hb1 | fail⟩
    ·have hd2 : (d != 0) = true := by simpa using hd
     have hgg : g3 = false := by rw [← HG.out]; exact decide_eq_false (by rintro ⟨_, a⟩; exact hd (a hz))
     subst hgg
     go_wp2_with fail
     all_goals go_meet
     all_goals exact ⟨rfl, by first | exact HU.out | exact HU.out.drew | exact Uno.drewN HU.out _ | exact HU.out.next hb1 | fail⟩
  case rest =>
   obtain ⟨rfl, hu⟩ := hcut
   clear HU
   have HU := Lib.hid hu
   clear hu
   have p0 := HU.out.cell 0 (v := .int .i64 k) rfl
   have p1 := HU.out.cell 1 (v := .int .i64 n) rfl
   have p2 := HU.out.cell 2 (v := .int .i64 d) rfl
   have p3 := HU.out.cell 3 (v := .string s) rfl
   have p4 := HU.out.cell 4 (v := .slice o len cap) rfl
   cases g3 with
   | false =>
    have HF := Lib.hid (HNO.out (by rw [← Bool.not_eq_true, head_iff]; rintro ⟨a0, a1, a2, a3, a4, a5, a6, a7, a8, a9⟩; exact absurd ⟨a1, a2⟩ (of_decide_eq_false HG.out)))
    go_wp2_with fail
    all_goals go_ret
    all_goals exact ⟨ret_bool HF.out, HU.out.below⟩
   | true =>
    have HAg3 := Lib.hid (of_decide_eq_true HG.out)
    clear HG
    obtain ⟨g5, hg5⟩ : ∃ g, decide ((k = 1 → n = 0 ∨ n = 1) ∧ (k ≠ 0 → k ≠ 1 → n = 0)) = g := ⟨_, rfl⟩
    have HG := Lib.hid hg5
    clear hg5
    go_upto_region 5 with fail
    go_cut [67] from 7 (fun c wx => c = .bool (!g5) ∧ Uno w #[.int .i64 k, .int .i64 n, .int .i64 d, .string s, .slice o len cap] 60 wx)
    case first => as_aux_lemma =>
     by_cases h1 : k = 1
     ·subst h1
      by_cases hn0 : n = 0
      ·subst hn0
       have hgg : g5 = true := by rw [← HG.out]; exact decide_eq_true ⟨fun _ => .inl rfl, fun _ _ => rfl⟩
       subst hgg
       go_wp2_with fail
       all_goals go_meet
       all_goals exact ⟨rfl, by first | exact HU.out | exact HU.out.drew | exact Uno.drewN HU.out _ | exact HU.out.next hb1 | fail⟩
      have hn02 : (n != 0) = true := by simpa using hn0
      by_cases hn1 : n = 1
      ·subst hn1
       have hgg : g5 = true := by rw [← HG.out]; exact decide_eq_true ⟨fun _ => .inr rfl, fun _ h => absurd rfl h⟩
       subst hgg
       go_wp2_with fail
       all_goals go_meet
       all_goals exact ⟨rfl, by first | exact HU.out | exact HU.out.drew | exact Uno.drewN HU.out _ | exact HU.out.next hb1 | fail⟩
      ·have hn12 : (n != 1) = true := by simpa using hn1
       have hgg : g5 = false := by rw [← HG.out]; exact decide_eq_false (by rintro ⟨a, _⟩; have := a rfl; omega)
       subst hgg
       go_wp2_with fail
       all_goals go_meet
       all_goals exact ⟨rfl, by first | exact HU.out | exact HU.out.drew | exact Uno.drewN HU.out _ | exact HU.out.next hb1 | fail⟩
     ·have h12 : (k == 1) = false := by simpa using h1
      have h13 : (k != 1) = true := by simpa using h1
      by_cases hz : k = 0
      ·subst hz
       have hgg : g5 = true := by rw [← HG.out]; exact decide_eq_true ⟨fun h => by omega, fun h => absurd rfl h⟩
       subst hgg
       go_wp2_with fail
       all_goals go_meet
       all_goals exact ⟨rfl, by first | exact HU.out | exact HU.out.drew | exact Uno.drewN HU.out _ | exact HU.out.next hb1 | fail⟩
      have hz2 : (k == 0) = false := by simpa using hz
      have hz3 : (k != 0) = true := by simpa using hz
      by_cases hn0 : n = 0
      ·subst hn0
       have hgg : g5 = true := by rw [← HG.out]; exact decide_eq_true ⟨fun h => absurd h h1, fun _ _ => rfl⟩
       subst hgg
       go_wp2_with fail
       all_goals go_meet
       all_goals exact ⟨rfl, by first | exact HU.out | exact HU.out.drew | exact Uno.drewN HU.out _ | exact HU.out.next hb1 | fail⟩
      ·have hn02 : (n != 0) = true := by simpa using hn0
       have hgg : g5 = false := by rw [← HG.out]; exact decide_eq_false (by rintro ⟨_, a⟩; exact hn0 (a hz h1))
       subst hgg
       go_wp2_with fail
       all_goals go_meet
       all_goals exact ⟨rfl, by first | exact HU.out | exact HU.out.drew | exact Uno.drewN HU.out _ | exact HU.out.next hb1 | fail⟩
    case rest =>
     obtain ⟨rfl, hu⟩ := hcut
     clear HU
     have HU := Lib.hid hu
     clear hu
     have p0 := HU.out.cell 0 (v := .int .i64 k) rfl
     have p1 := HU.out.cell 1 (v := .int .i64 n) rfl
     have p2 := HU.out.cell 2 (v := .int .i64 d) rfl
     have p3 := HU.out.cell 3 (v := .string s) rfl
     have p4 := HU.out.cell 4 (v := .slice o len cap) rfl
     cases g5 with
     | false =>
      have HF := Lib.hid (HNO.out (by rw [← Bool.not_eq_true, head_iff]; rintro ⟨a0, a1, a2, a3, a4, a5, a6, a7, a8, a9⟩; exact absurd ⟨a3, a4⟩ (of_decide_eq_false HG.out)))
      go_wp2_with fail
      all_goals go_ret
      all_goals exact ⟨ret_bool HF.out, HU.out.below⟩
     | true =>
      have HAg5 := Lib.hid (of_decide_eq_true HG.out)
      clear HG
      obtain ⟨g7, hg7⟩ : ∃ g, decide ((k = 2 → Dat.name s.data.toList = true) ∧ (k ≠ 2 → k ≠ 3 → s.data.toList = [])) = g := ⟨_, rfl⟩
      have HG := Lib.hid hg7
      clear hg7
      go_upto_region 7 with fail
      go_cut [91] from 7 (fun c wx => c = .bool (!g7) ∧ Uno w #[.int .i64 k, .int .i64 n, .int .i64 d, .string s, .slice o len cap] 60 wx)
      case first => as_aux_lemma =>
       by_cases h2 : k = 2
       ·subst h2
        obtain ⟨q, hq⟩ : ∃ q, Dat.name s.data.toList = q := ⟨_, rfl⟩
        have HQ := Lib.hid hq
        cases q with
        | false =>
          have hgg : g7 = false := by rw [← HG.out]; exact decide_eq_false (by rintro ⟨a, _⟩; rw [a rfl] at hq; cases hq)
          subst hgg
          go_wp2_with (first | (go_at_call 98; refine (rname_to s false HQ.out bs _).mono ?_; rintro e1 w1 ⟨rfl, hb1⟩; have HU1 := Lib.hid (HU.out.next hb1); have p0 := HU1.out.cell 0 (v := .int .i64 2) rfl; have p1 := HU1.out.cell 1 (v := .int .i64 n) rfl; have p2 := HU1.out.cell 2 (v := .int .i64 d) rfl; have p3 := HU1.out.cell 3 (v := .string s) rfl; have p4 := HU1.out.cell 4 (v := .slice o len cap) rfl) | fail)
          all_goals go_meet
          all_goals exact ⟨rfl, by first | exact HU1.out | exact HU1.out.drew | exact HU.out.drew | exact HU.out | exact Uno.drewN HU1.out _ | exact Uno.drewN HU.out _ | fail⟩
         | true =>
          have hgg : g7 = true := by rw [← HG.out]; exact decide_eq_true ⟨fun _ => hq, fun h => absurd rfl h⟩
          subst hgg
          go_wp2_with (first | (go_at_call 98; refine (rname_to s true HQ.out bs _).mono ?_; rintro e1 w1 ⟨rfl, hb1⟩; have HU1 := Lib.hid (HU.out.next hb1); have p0 := HU1.out.cell 0 (v := .int .i64 2) rfl; have p1 := HU1.out.cell 1 (v := .int .i64 n) rfl; have p2 := HU1.out.cell 2 (v := .int .i64 d) rfl; have p3 := HU1.out.cell 3 (v := .string s) rfl; have p4 := HU1.out.cell 4 (v := .slice o len cap) rfl) | fail)
          all_goals go_meet
          all_goals exact ⟨rfl, by first | exact HU1.out | exact HU1.out.drew | exact HU.out.drew | exact HU.out | exact Uno.drewN HU1.out _ | exact Uno.drewN HU.out _ | fail⟩
       ·have h22 : (k == 2) = false := by simpa using h2
        have h23 : (k != 2) = true := by simpa using h2
        by_cases h3 : k = 3
        ·subst h3
         have hgg : g7 = true := by rw [← HG.out]; exact decide_eq_true ⟨fun h => absurd h h2, fun _ h => absurd rfl h⟩
         subst hgg
         go_wp2_with fail
         all_goals go_meet
         all_goals exact ⟨rfl, by first | exact HU.out | exact HU.out.drew | exact Uno.drewN HU.out _ | exact HU.out.next hb1 | fail⟩
        have h33 : (k != 3) = true := by simpa using h3
        cases he : s.toList.isEmpty with
        | false =>
         have hgg : g7 = false := by rw [← HG.out]; exact decide_eq_false (by rintro ⟨_, a⟩; rw [ByteArray.toList_eq, a h2 h3] at he; cases he)
         subst hgg
         go_wp2_with fail
         all_goals go_meet
         all_goals exact ⟨rfl, by first | exact HU.out | exact HU.out.drew | exact Uno.drewN HU.out _ | exact HU.out.next hb1 | fail⟩
        | true =>
         have hgg : g7 = true := by rw [← HG.out]; exact decide_eq_true ⟨fun h => absurd h h2, fun _ _ => by rw [← ByteArray.toList_eq]; exact List.isEmpty_iff.1 he⟩
         subst hgg
         go_wp2_with fail
         all_goals go_meet
         all_goals exact ⟨rfl, by first | exact HU.out | exact HU.out.drew | exact Uno.drewN HU.out _ | exact HU.out.next hb1 | fail⟩
      case rest =>
       obtain ⟨rfl, hu⟩ := hcut
       clear HU
       have HU := Lib.hid hu
       clear hu
       have p0 := HU.out.cell 0 (v := .int .i64 k) rfl
       have p1 := HU.out.cell 1 (v := .int .i64 n) rfl
       have p2 := HU.out.cell 2 (v := .int .i64 d) rfl
       have p3 := HU.out.cell 3 (v := .string s) rfl
       have p4 := HU.out.cell 4 (v := .slice o len cap) rfl
       cases g7 with
       | false =>
        have HF := Lib.hid (HNO.out (by rw [← Bool.not_eq_true, head_iff]; rintro ⟨a0, a1, a2, a3, a4, a5, a6, a7, a8, a9⟩; exact absurd ⟨a5, a6⟩ (of_decide_eq_false HG.out)))
        go_wp2_with fail
        all_goals go_ret
        all_goals exact ⟨ret_bool HF.out, HU.out.below⟩
       | true =>
        have HAg7 := Lib.hid (of_decide_eq_true HG.out)
        clear HG
        go_wp2_with fail
        go_loopg [5] s.size (fun g i wr => ∃ j : Nat, g = s.size - j ∧ j ≤ s.size ∧ i = .int .i64 j ∧ (∀ b ∈ s.data.toList.take j, Dat.strByte b = true) ∧ Uno w #[.int .i64 k, .int .i64 n, .int .i64 d, .string s, .slice o len cap] 60 wr)
        case atStart => exact ⟨0, rfl, by omega, rfl, by simp, HU.out⟩
        case round =>
         obtain ⟨j, rfl, hj, rfl, ha, hu⟩ := hrel
         clear HU p0 p1 p2 p3 p4
         have HU := Lib.hid hu
         have HA := Lib.hid ha
         clear hu ha
         have p0 := HU.out.cell 0 (v := .int .i64 k) rfl
         have p1 := HU.out.cell 1 (v := .int .i64 n) rfl
         have p2 := HU.out.cell 2 (v := .int .i64 d) rfl
         have p3 := HU.out.cell 3 (v := .string s) rfl
         have p4 := HU.out.cell 4 (v := .slice o len cap) rfl
         by_cases hjl : j < s.size
         ·have hsl : j < s.data.toList.length := hjl
          obtain ⟨gb, hgb⟩ : ∃ g, decide (32 ≤ s[j].toNat ∧ s[j].toNat ≤ 126 ∧ s[j].toNat ≠ 34 ∧ s[j].toNat ≠ 92) = g := ⟨_, rfl⟩
          have HG := Lib.hid hgb
          clear hgb
          go_upto_region 12 with fail
          go_cut [124] from 92 to 124 (fun c wx => c = .bool (!gb) ∧ Uno w #[.int .i64 k, .int .i64 n, .int .i64 d, .string s, .slice o len cap] 60 wx)
          case first => as_aux_lemma =>
           by_cases b0 : s[j].toNat < 32
           ·have f0 : decide ((s[j].toNat : Int) < 32) = true := decide_eq_true (by omega)
            have hgg : gb = false := by rw [← HG.out]; exact decide_eq_false (by rintro ⟨a, b, c, d⟩; omega)
            subst hgg
            go_wp2_with fail
            all_goals go_meet
            all_goals exact ⟨rfl, by first | exact HU.out | exact HU.out.drew | exact Uno.drewN HU.out _ | exact HU.out.next hb1 | fail⟩
           have f0 : decide ((s[j].toNat : Int) < 32) = false := decide_eq_false (by omega)
           by_cases b1 : 126 < s[j].toNat
           ·have f1 : decide ((126 : Int) < (s[j].toNat : Int)) = true := decide_eq_true (by omega)
            have hgg : gb = false := by rw [← HG.out]; exact decide_eq_false (by rintro ⟨a, b, c, d⟩; omega)
            subst hgg
            go_wp2_with fail
            all_goals go_meet
            all_goals exact ⟨rfl, by first | exact HU.out | exact HU.out.drew | exact Uno.drewN HU.out _ | exact HU.out.next hb1 | fail⟩
           have f1 : decide ((126 : Int) < (s[j].toNat : Int)) = false := decide_eq_false (by omega)
           by_cases b2 : s[j].toNat = 34
           ·have f2 : ((s[j].toNat : Int) == 34) = true := by rw [b2]; rfl
            have hgg : gb = false := by rw [← HG.out]; exact decide_eq_false (by rintro ⟨a, b, c, d⟩; omega)
            subst hgg
            go_wp2_with fail
            all_goals go_meet
            all_goals exact ⟨rfl, by first | exact HU.out | exact HU.out.drew | exact Uno.drewN HU.out _ | exact HU.out.next hb1 | fail⟩
           have f2 : ((s[j].toNat : Int) == 34) = false := by rw [beq_eq_false_iff_ne]; omega
           by_cases b3 : s[j].toNat = 92
           ·have f3 : ((s[j].toNat : Int) == 92) = true := by rw [b3]; rfl
            have hgg : gb = false := by rw [← HG.out]; exact decide_eq_false (by rintro ⟨a, b, c, d⟩; omega)
            subst hgg
            go_wp2_with fail
            all_goals go_meet
            all_goals exact ⟨rfl, by first | exact HU.out | exact HU.out.drew | exact Uno.drewN HU.out _ | exact HU.out.next hb1 | fail⟩
           have f3 : ((s[j].toNat : Int) == 92) = false := by rw [beq_eq_false_iff_ne]; omega
           have hgg : gb = true := by rw [← HG.out]; exact decide_eq_true ⟨by omega, by omega, b2, b3⟩
           subst hgg
           go_wp2_with fail
           all_goals go_meet
           all_goals exact ⟨rfl, by first | exact HU.out | exact HU.out.drew | exact Uno.drewN HU.out _ | exact HU.out.next hb1 | fail⟩
          case rest =>
           obtain ⟨rfl, hu⟩ := hcut
           clear HU p0 p1 p2 p3 p4
           have HU := Lib.hid hu
           clear hu
           cases gb with
           | false =>
            have HF := Lib.hid (HNO.out (by rw [← Bool.not_eq_true, head_iff]; rintro ⟨a0, a1, a2, a3, a4, a5, a6, a7, a8, a9⟩; exact absurd ((strByte_iff _).1 (List.all_eq_true.1 a7 _ (List.getElem_mem hsl))) (of_decide_eq_false HG.out)))
            go_wp2_with fail
            all_goals go_ret
            all_goals exact ⟨ret_bool HF.out, HU.out.below⟩
           | true =>
            have HSB := Lib.hid ((strByte_iff _).2 (of_decide_eq_true HG.out))
            go_wp2_with fail
            go_roundg (s.size - (j + 1))
            case measure => omega
            case rel => exact ⟨j + 1, rfl, by omega, by go_num, all_next HA.out hsl HSB.out, HU.out⟩
         ·obtain rfl : j = s.size := by omega
          have HAs := Lib.hid (show s.data.toList.all Dat.strByte = true from List.all_eq_true.2 (by have := HA.out; rwa [List.take_of_length_le (show s.data.toList.length ≤ s.size from Nat.le_of_eq rfl)] at this))
          clear HA
          obtain ⟨g14, hg14⟩ : ∃ g, decide ((k = 6 → len = 2) ∧ (k ≠ 6 → k ≠ 7 → len = 0)) = g := ⟨_, rfl⟩
          have HG := Lib.hid hg14
          clear hg14
          go_upto_region 14 with fail
          go_cut [149] from 7 (fun c wx => c = .bool (!g14) ∧ Uno w #[.int .i64 k, .int .i64 n, .int .i64 d, .string s, .slice o len cap] 60 wx)
          case first => as_aux_lemma =>
           by_cases h6 : k = 6
           ·subst h6
            by_cases hl2 : len = 2
            ·subst hl2
             have hgg : g14 = true := by rw [← HG.out]; exact decide_eq_true ⟨fun _ => rfl, fun h => absurd rfl h⟩
             subst hgg
             go_wp2_with fail
             all_goals go_meet
             all_goals exact ⟨rfl, by first | exact HU.out | exact HU.out.drew | exact Uno.drewN HU.out _ | exact HU.out.next hb1 | fail⟩
            ·have hl3 : ((len : Int) != 2) = true := by rw [bne_iff_ne]; omega
             have hgg : g14 = false := by rw [← HG.out]; exact decide_eq_false (by rintro ⟨a, _⟩; exact hl2 (a rfl))
             subst hgg
             go_wp2_with fail
             all_goals go_meet
             all_goals exact ⟨rfl, by first | exact HU.out | exact HU.out.drew | exact Uno.drewN HU.out _ | exact HU.out.next hb1 | fail⟩
           have h62 : (k == 6) = false := by simpa using h6
           have h63 : (k != 6) = true := by simpa using h6
           by_cases h7 : k = 7
           ·subst h7
            have hgg : g14 = true := by rw [← HG.out]; exact decide_eq_true ⟨fun h => absurd h h6, fun _ h => absurd rfl h⟩
            subst hgg
            go_wp2_with fail
            all_goals go_meet
            all_goals exact ⟨rfl, by first | exact HU.out | exact HU.out.drew | exact Uno.drewN HU.out _ | exact HU.out.next hb1 | fail⟩
           have h73 : (k != 7) = true := by simpa using h7
           by_cases hl0 : len = 0
           ·subst hl0
            have hgg : g14 = true := by rw [← HG.out]; exact decide_eq_true ⟨fun h => absurd h h6, fun _ _ => rfl⟩
            subst hgg
            go_wp2_with fail
            all_goals go_meet
            all_goals exact ⟨rfl, by first | exact HU.out | exact HU.out.drew | exact Uno.drewN HU.out _ | exact HU.out.next hb1 | fail⟩
           have hl1 : decide ((0 : Int) < (len : Int)) = true := decide_eq_true (by omega)
           have hl2 : decide (0 < len) = true := decide_eq_true (by omega)
           have hgg : g14 = false := by rw [← HG.out]; exact decide_eq_false (by rintro ⟨_, a⟩; exact hl0 (a h6 h7))
           subst hgg
           go_wp2_with fail
           all_goals go_meet
           all_goals exact ⟨rfl, by first | exact HU.out | exact HU.out.drew | exact Uno.drewN HU.out _ | exact HU.out.next hb1 | fail⟩
          case rest =>
           obtain ⟨rfl, hu⟩ := hcut
           clear HU p0 p1 p2 p3 p4
           have HU := Lib.hid hu
           clear hu
           have p0 := HU.out.cell 0 (v := .int .i64 k) rfl
           have p1 := HU.out.cell 1 (v := .int .i64 n) rfl
           have p2 := HU.out.cell 2 (v := .int .i64 d) rfl
           have p3 := HU.out.cell 3 (v := .string s) rfl
           have p4 := HU.out.cell 4 (v := .slice o len cap) rfl
           cases g14 with
           | false =>
            have HF := Lib.hid (HNO.out (by rw [← Bool.not_eq_true, head_iff]; rintro ⟨a0, a1, a2, a3, a4, a5, a6, a7, a8, a9⟩; rw [← HL.out] at a8 a9; exact absurd ⟨a8, a9⟩ (of_decide_eq_false HG.out)))
            go_wp2_with fail
            all_goals go_ret
            all_goals exact ⟨ret_bool HF.out, HU.out.below⟩
           | true =>
            have HAg14 := Lib.hid (of_decide_eq_true HG.out)
            clear HG
            have HQ := Lib.hid (show (l.all fun x => Dat.right x (deep + 1)) = r by
             rw [← HR.out, decide_eq_true (by omega : deep ≤ 200), (head_iff k n d s.data.toList l.length).2 ⟨by omega, HAg3.out.1, HAg3.out.2, HAg5.out.1, HAg5.out.2, HAg7.out.1, HAg7.out.2, HAs.out, by rw [← HL.out]; exact HAg14.out.1, by rw [← HL.out]; exact HAg14.out.2⟩]
             rfl)
            go_wp2_with fail
            go_loopg [6] len (fun g i wr => ∃ j : Nat, g = len - j ∧ j ≤ len ∧ i = .int .i64 j ∧ (∀ (q : Nat) (x : Dat), q < j → l[q]? = some x → Dat.right x (deep + 1) = true) ∧ Uno w #[.int .i64 k, .int .i64 n, .int .i64 d, .string s, .slice o len cap] 60 wr)
            case atStart => exact ⟨0, rfl, by omega, rfl, fun q x h => absurd h (by omega), HU.out⟩
            case round =>
             obtain ⟨j, rfl, hj, rfl, hq, hu⟩ := hrel
             clear HU p0 p1 p2 p3 p4
             have HU := Lib.hid hu
             have HQ2 := Lib.hid hq
             clear hu hq
             have p4 := HU.out.cell 4 (v := .slice o len cap) rfl
             have hsz := HU.out.size
             by_cases hjl : j < len
             ·obtain ⟨x, hx⟩ : ∃ x, l[j]? = some x := ⟨_, List.getElem?_eq_getElem (by rw [← HL.out]; exact hjl)⟩
              obtain ⟨b1, off1, k1, n1, d1, s1, l1, o1, len1, cap1, ho1, hx1, e0, e1, e2, e3, e4, er⟩ := part_at2 HC.out (HU.out.below.mono HBB.out) hx
              subst ho1 hx1
              have ER := Lib.hid er
              have HX := Lib.hid hx
              have hl1 := cell_lt e0
              have hlb1 := cell_lt p4
              obtain ⟨q, hq⟩ : ∃ q, Dat.right (.mk k1 n1 d1 s1 l1) (deep + 1) = q := ⟨_, rfl⟩
              have HQQ := Lib.hid hq
              clear hx er hq
              have hC : Calls Tryz.prog 65 #[.agg #[.int .i64 k1, .int .i64 n1, .int .i64 d1, .string s1, .slice o1 len1 cap1], .int .i64 ((deep : Int) + 1)] wr fun e w' => e = .returned (.bool q) ∧ Below wr.heap.size wr w' := by
               have := HIH.out (.mk k1 n1 d1 s1 l1) (List.mem_of_getElem? HX.out) _ (deep + 1) B wr ER.out (by have := HBB.out; omega) (by omega)
               rw [HQQ.out] at this
               rw [show ((deep : Int) + 1) = ((deep + 1 : Nat) : Int) by omega]
               exact this
              have HCC := Lib.hid hC
              clear hC
              cases q with
              | true =>
               go_wp2_with (first | (go_at_call 65; refine HCC.out.mono ?_; rintro e2 w2 ⟨rfl, hb2⟩) | fail)
               go_roundg (len - (j + 1))
               case measure => omega
               case rel =>
                refine ⟨j + 1, rfl, by omega, by go_num, ?_, HU.out.next hb2⟩
                intro p x hp hx
                by_cases hpj : p < j
                ·exact HQ2.out p x hpj hx
                ·obtain rfl : p = j := by omega
                 obtain rfl := Option.some.inj (hx.symm.trans HX.out)
                 exact HQQ.out
              | false =>
               have HF := Lib.hid (show false = r by
                rw [← HQ.out, eq_comm, List.all_eq_false]
                exact ⟨_, List.mem_of_getElem? HX.out, by rw [HQQ.out]; simp⟩)
               go_wp2_with (first | (go_at_call 65; refine HCC.out.mono ?_; rintro e2 w2 ⟨rfl, hb2⟩) | fail)
               go_ret
               exact ⟨ret_bool HF.out, (HU.out.next hb2).below⟩
             ·obtain rfl : j = len := by omega
              have HF := Lib.hid (show true = r by
               rw [← HQ.out, eq_comm, List.all_eq_true]
               intro x hx
               obtain ⟨i, hi, he⟩ := List.getElem_of_mem hx
               exact HQ2.out i x (by rw [HL.out]; exact hi) (by rw [← he]; exact List.getElem?_eq_getElem hi))
              go_wp2_with fail
              go_ret
              exact ⟨ret_bool HF.out, HU.out.below⟩
theorem rdatum_to (x : Dat) (v : Value) (deep B : Nat) (w : World) (r : Bool) (hr : Dat.right x deep = r) (hv : RepD w B x v) (hB : B ≤ w.heap.size) (hd : deep ≤ 201) :
  Calls Tryz.prog 65 #[v, .int .i64 deep] w fun e w' => e = .returned (.bool r) ∧ Below w.heap.size w w' := by
 rw [← hr]; exact rdatum_any x v deep B w hv hB hd
theorem rRight_to (x : Dat) (v : Value) (B : Nat) (w : World) (r : Bool) (hr : Dat.right x 0 = r) (hv : RepD w B x v) (hB : B ≤ w.heap.size) :
  Calls Tryz.prog 35 #[v] w fun e w' => e = .returned (.bool r) ∧ Below w.heap.size w w' := by
 obtain ⟨k, n, d, s, l⟩ := x
 obtain ⟨sl, rfl, _⟩ := hv.open
 have HV := Lib.hid hv
 have HR := Lib.hid hr
 clear hv hr
 go_enter Tryz.func35, Tryz.ntmps35
 go_wp2_with (first | (go_at_call 65; refine (rdatum_to (.mk k n d s l) _ 0 B _ r HR.out (HV.out.kept (((Below.refl _ _).alloc (Nat.le_refl _) _).mono hB)) (by simp; omega) (by omega)).mono ?_; rintro e' w1 ⟨rfl, hb1⟩) | fail)
 go_ret
 exact ⟨rfl, ((Below.refl _ _).alloc (Nat.le_refl _) _).trans (hb1.mono (by simp))⟩
end
end Go.Proofs.YtigkhmppnnljiaaGreatDoor

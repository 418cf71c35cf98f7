/-
  What the proofs lean on: RName.
-/
import Derived.Deep.LoopGhost
import Derived.Test.YtigkhmppnnljiaaGreatDoorPreA05
import Derived.Test.YtigkhmppnnljiaaGreatDoorPreA06
set_option maxRecDepth 100000
set_option maxHeartbeats 16000000
namespace Go.Proofs.YtigkhmppnnljiaaGreatDoor
section
open Go.RowKit
theorem rparse_to (s : ByteArray) (x y : Int) (z : Bool) (hp : Num.parse s.data.toList = (x, y, z)) (hs : s.size ≤ 140737488351232) (w : World) :
  Calls Tryz.prog 140 #[.string s] w fun e w' => e = .returned (.tuple #[.int .i64 x, .int .i64 y, .bool z]) ∧ Below w.heap.size w w' := by
 have := rparse_any s (by omega) w
 rw [hp] at this; exact this
def marks11 : List UInt8 := [45, 43, 42, 47, 60, 62, 61, 33, 63, 95, 37]
theorem nameByte_eq : ∀ b : UInt8, Dat.nameByte b = ((decide (97 ≤ b.toNat) && decide (b.toNat ≤ 122)) || (decide (48 ≤ b.toNat) && decide (b.toNat ≤ 57)) || marks11.contains b) := by
 intro b
 have h : ∀ n, n < 256 → Dat.nameByte (UInt8.ofNat n) = ((decide (97 ≤ (UInt8.ofNat n).toNat) && decide ((UInt8.ofNat n).toNat ≤ 122)) || (decide (48 ≤ (UInt8.ofNat n).toNat) && decide ((UInt8.ofNat n).toNat ≤ 57)) || marks11.contains (UInt8.ofNat n)) := by decide +kernel
 have := h b.toNat (UInt8.toNat_lt b)
 rwa [UInt8.ofNat_toNat] at this
theorem five_ways (x : Int) : (97 ≤ x ∧ x ≤ 122) ∨ (48 ≤ x ∧ x ≤ 57) ∨ x < 48 ∨ (57 < x ∧ x < 97) ∨ 122 < x := by omega
theorem mark_true {base : Bool} {b c : UInt8} {q : Nat} (h : (base || (marks11.take q).contains b) = true) (_ : marks11[q]? = some c) : (base || (marks11.take (q + 1)).contains b) = true := by
 rw [List.take_add_one]
 simp only [Bool.or_eq_true, List.contains_iff_mem, List.mem_append] at h ⊢
 rcases h with h | h
 ·exact .inl h
 ·exact .inr (.inl h)
theorem mark_hit {base : Bool} {b c : UInt8} {q : Nat} (hc : marks11[q]? = some c) (he : ((b.toNat : Int) == (c.toNat : Int)) = true) : (base || (marks11.take (q + 1)).contains b) = true := by
 have e : b = c := UInt8.toNat_inj.1 (by have := beq_iff_eq.1 he; omega)
 rw [List.take_add_one, hc, e]
 simp
theorem mark_miss {base : Bool} {b c : UInt8} {q : Nat} (h : (base || (marks11.take q).contains b) = false) (hc : marks11[q]? = some c) (he : ((b.toNat : Int) == (c.toNat : Int)) = false) : (base || (marks11.take (q + 1)).contains b) = false := by
 have e : ¬ b = c := by rintro rfl; simp at he
 rw [List.take_add_one, hc]
 simp only [Bool.or_eq_false_iff] at h ⊢
 refine ⟨h.1, ?_⟩
 rw [← Bool.not_eq_true, List.contains_iff_mem, List.mem_append]
 have h2 := h.2
 rw [← Bool.not_eq_true, List.contains_iff_mem] at h2
 rintro (h' | h')
 ·exact h2 h'
 ·simp only [Option.toList_some, List.mem_singleton] at h'; exact e h'
theorem way_yes {b : UInt8} (h : (97 ≤ (b.toNat : Int) ∧ (b.toNat : Int) ≤ 122) ∨ (48 ≤ (b.toNat : Int) ∧ (b.toNat : Int) ≤ 57)) : ((decide (97 ≤ b.toNat) && decide (b.toNat ≤ 122)) || (decide (48 ≤ b.toNat) && decide (b.toNat ≤ 57))) = true := by
 simp only [Bool.or_eq_true, Bool.and_eq_true, decide_eq_true_eq]; omega
theorem way_no {b : UInt8} (h : ¬ ((97 ≤ (b.toNat : Int) ∧ (b.toNat : Int) ≤ 122) ∨ (48 ≤ (b.toNat : Int) ∧ (b.toNat : Int) ≤ 57))) : ((decide (97 ≤ b.toNat) && decide (b.toNat ≤ 122)) || (decide (48 ≤ b.toNat) && decide (b.toNat ≤ 57))) = false := by
 rw [← Bool.not_eq_true]
 simp only [Bool.or_eq_true, Bool.and_eq_true, decide_eq_true_eq]; omega
theorem all_next {p : UInt8 → Bool} {l : List UInt8} {j : Nat} (h : ∀ b ∈ l.take j, p b = true) (hj : j < l.length) (hp : p l[j] = true) : ∀ b ∈ l.take (j + 1), p b = true := by
 intro b hb
 rw [List.take_add_one, List.getElem?_eq_getElem hj] at hb
 rcases List.mem_append.1 hb with h' | h'
 ·exact h b h'
 ·simp only [Option.toList_some, List.mem_singleton] at h'; rw [h']; exact hp
theorem all_not {p : UInt8 → Bool} {l : List UInt8} {i : Nat} (hj : i < l.length) (hp : p l[i] = false) : l.all p = false := by
 rw [List.all_eq_false]
 exact ⟨l[i], List.getElem_mem hj, by simp [hp]⟩
theorem rname_any (s : ByteArray) (hs : s.size ≤ 140737488351232) (w : World) :
  Calls Tryz.prog 98 #[.string s] w fun e w' => e = .returned (.bool (Dat.name s.data.toList)) ∧ Below w.heap.size w w' := by
 have hl : s.data.toList.length = s.size := rfl
 obtain ⟨r, hr⟩ : ∃ r, Dat.name s.data.toList = r := ⟨_, rfl⟩
 rw [hr]
 unfold Dat.name at hr
 rw [hl] at hr
 by_cases h0 : s.size < 1
 ·have HR := Lib.hid (show r = false by rw [← hr, decide_eq_false (by omega : ¬ 1 ≤ s.size)]; rfl)
  clear hr
  go_enter Tryz.func98, Tryz.ntmps98
  go_wp2
  go_ret
  exact ⟨ret_bool HR.out.symm, Below.self _⟩
 by_cases h40 : 40 < s.size
 ·have HR := Lib.hid (show r = false by rw [← hr, decide_eq_false (by omega : ¬ s.size ≤ 40)]; simp)
  clear hr
  go_enter Tryz.func98, Tryz.ntmps98
  go_wp2
  go_ret
  exact ⟨ret_bool HR.out.symm, Below.self _⟩
 rw [decide_eq_true (by omega : 1 ≤ s.size), decide_eq_true (by omega : s.size ≤ 40)] at hr
 simp only [Bool.true_and] at hr
 have HR := Lib.hid hr
 have HS := Lib.hid (Below.refl w.heap.size w)
 clear hr
 go_enter Tryz.func98, Tryz.ntmps98
 go_wp2_with fail
 generalize hM : (⟨#[45, 43, 42, 47, 60, 62, 61, 33, 63, 95, 37]⟩ : ByteArray) = M
 have hM1 : M.size = 11 := by rw [← hM]; rfl
 have hM2 : M.data.toList = marks11 := by rw [← hM]; rfl
 have HM1 := Lib.hid hM1
 have HM2 := Lib.hid hM2
 clear hM hM2
 go_loopg [4] s.size (fun g i wr => ∃ j : Nat, g = s.size - j ∧ j ≤ s.size ∧ i = .int .i64 j ∧ (∀ b ∈ s.data.toList.take j, Dat.nameByte b = true) ∧ Below w.heap.size w wr)
 case atStart => exact ⟨0, rfl, by omega, rfl, by simp, HS.out⟩
 case round =>
  obtain ⟨j, rfl, hj, rfl, hall, hb⟩ := hrel
  have HA := Lib.hid hall
  have HB := Lib.hid hb
  have hsz := hb.size
  clear hall hb
  by_cases hjl : j < s.size
  ·rcases five_ways (s[j].toNat : Int) with ⟨h1, h2⟩ | ⟨h1, h2⟩ | h1 | ⟨h1, h2⟩ | h1
   ·skip
    go_wp2_with fail
    go_loopg [5, 6] 11 (fun g ok k wr => ∃ (q : Nat) (v : Bool), g = 11 - q ∧ q ≤ 11 ∧ k = .int .i64 q ∧ ok = .bool v ∧ (true || (marks11.take q).contains s[j]) = v ∧ Below w.heap.size w wr)
    case atStart => exact ⟨0, true, rfl, by omega, rfl, rfl, rfl, HB.out⟩
    case round =>
     obtain ⟨q, v, rfl, hq, rfl, rfl, hv, hb⟩ := hrel
     have HV := Lib.hid hv
     have HB2 := Lib.hid hb
     have hsz2 := hb.size
     clear hv hb
     by_cases hql : q < 11
     ·have hqM : q < M.size := by rw [hM1]; exact hql
      have hmq : marks11[q]? = some M[q] := by rw [← HM2.out]; exact List.getElem?_eq_getElem (by simpa using hqM)
      have HMQ := Lib.hid hmq
      clear hmq
      cases v with
      | true =>
       go_wp2_with fail
       go_region
       all_goals
        go_wp2_with fail
        go_roundg (11 - (q + 1))
        case measure => omega
        case rel => exact ⟨q + 1, true, rfl, by omega, by go_num, rfl, mark_true HV.out HMQ.out, by first | exact HB2.out.drew | exact HB2.out | fail⟩
      | false =>
       exact absurd HV.out (by simp)
     ·have hq11 : q = 11 := by omega
      subst hq11
      have HN := Lib.hid (show Dat.nameByte s[j] = v by
       rw [nameByte_eq, ← HV.out]
       simp only [show marks11.take 11 = marks11 from rfl]
       congr 1
       exact way_yes (by omega))
      cases v with
      | true =>
       go_wp2_with fail
       go_roundg (s.size - (j + 1))
       case measure => omega
       case rel => exact ⟨j + 1, rfl, by omega, by go_num, all_next HA.out (hl ▸ hjl) HN.out, HB2.out⟩
      | false =>
       have HF := Lib.hid (show r = false by rw [← HR.out, all_not (i := j) (hl ▸ hjl) HN.out]; rfl)
       go_wp2_with fail
       go_ret
       exact ⟨ret_bool HF.out.symm, HB2.out⟩
   ·skip
    go_wp2_with fail
    go_loopg [5, 6] 11 (fun g ok k wr => ∃ (q : Nat) (v : Bool), g = 11 - q ∧ q ≤ 11 ∧ k = .int .i64 q ∧ ok = .bool v ∧ (true || (marks11.take q).contains s[j]) = v ∧ Below w.heap.size w wr)
    case atStart => exact ⟨0, true, rfl, by omega, rfl, rfl, rfl, HB.out⟩
    case round =>
     obtain ⟨q, v, rfl, hq, rfl, rfl, hv, hb⟩ := hrel
     have HV := Lib.hid hv
     have HB2 := Lib.hid hb
     have hsz2 := hb.size
     clear hv hb
     by_cases hql : q < 11
     ·have hqM : q < M.size := by rw [hM1]; exact hql
      have hmq : marks11[q]? = some M[q] := by rw [← HM2.out]; exact List.getElem?_eq_getElem (by simpa using hqM)
      have HMQ := Lib.hid hmq
      clear hmq
      cases v with
      | true =>
       go_wp2_with fail
       go_region
       all_goals
        go_wp2_with fail
        go_roundg (11 - (q + 1))
        case measure => omega
        case rel => exact ⟨q + 1, true, rfl, by omega, by go_num, rfl, mark_true HV.out HMQ.out, by first | exact HB2.out.drew | exact HB2.out | fail⟩
      | false =>
       exact absurd HV.out (by simp)
     ·have hq11 : q = 11 := by omega
      subst hq11
      have HN := Lib.hid (show Dat.nameByte s[j] = v by
       rw [nameByte_eq, ← HV.out]
       simp only [show marks11.take 11 = marks11 from rfl]
       congr 1
       exact way_yes (by omega))
      cases v with
      | true =>
       go_wp2_with fail
       go_roundg (s.size - (j + 1))
       case measure => omega
       case rel => exact ⟨j + 1, rfl, by omega, by go_num, all_next HA.out (hl ▸ hjl) HN.out, HB2.out⟩
      | false =>
       have HF := Lib.hid (show r = false by rw [← HR.out, all_not (i := j) (hl ▸ hjl) HN.out]; rfl)
       go_wp2_with fail
       go_ret
       exact ⟨ret_bool HF.out.symm, HB2.out⟩
   ·skip
    go_wp2_with fail
    go_loopg [5, 6] 11 (fun g ok k wr => ∃ (q : Nat) (v : Bool), g = 11 - q ∧ q ≤ 11 ∧ k = .int .i64 q ∧ ok = .bool v ∧ (false || (marks11.take q).contains s[j]) = v ∧ Below w.heap.size w wr)
    case atStart => exact ⟨0, false, rfl, by omega, rfl, rfl, rfl, HB.out⟩
    case round =>
     obtain ⟨q, v, rfl, hq, rfl, rfl, hv, hb⟩ := hrel
     have HV := Lib.hid hv
     have HB2 := Lib.hid hb
     have hsz2 := hb.size
     clear hv hb
     by_cases hql : q < 11
     ·have hqM : q < M.size := by rw [hM1]; exact hql
      have hmq : marks11[q]? = some M[q] := by rw [← HM2.out]; exact List.getElem?_eq_getElem (by simpa using hqM)
      have HMQ := Lib.hid hmq
      clear hmq
      cases v with
      | true =>
       go_wp2_with fail
       go_region
       all_goals
        go_wp2_with fail
        go_roundg (11 - (q + 1))
        case measure => omega
        case rel => exact ⟨q + 1, true, rfl, by omega, by go_num, rfl, mark_true HV.out HMQ.out, by first | exact HB2.out.drew | exact HB2.out | fail⟩
      | false =>
       cases he : ((s[j].toNat : Int) == (M[q].toNat : Int)) with
       | true =>
        go_wp2_with fail
        go_region
        all_goals
         go_wp2_with fail
         go_roundg (11 - (q + 1))
         case measure => omega
         case rel => exact ⟨q + 1, true, rfl, by omega, by go_num, rfl, mark_hit HMQ.out he, by first | exact HB2.out.drew | exact HB2.out | fail⟩
       | false =>
        go_wp2_with fail
        go_region
        all_goals
         go_wp2_with fail
         go_roundg (11 - (q + 1))
         case measure => omega
         case rel => exact ⟨q + 1, false, rfl, by omega, by go_num, rfl, mark_miss HV.out HMQ.out he, by first | exact HB2.out.drew | exact HB2.out | fail⟩
     ·have hq11 : q = 11 := by omega
      subst hq11
      have HN := Lib.hid (show Dat.nameByte s[j] = v by
       rw [nameByte_eq, ← HV.out]
       simp only [show marks11.take 11 = marks11 from rfl]
       congr 1
       exact way_no (by omega))
      cases v with
      | true =>
       go_wp2_with fail
       go_roundg (s.size - (j + 1))
       case measure => omega
       case rel => exact ⟨j + 1, rfl, by omega, by go_num, all_next HA.out (hl ▸ hjl) HN.out, HB2.out⟩
      | false =>
       have HF := Lib.hid (show r = false by rw [← HR.out, all_not (i := j) (hl ▸ hjl) HN.out]; rfl)
       go_wp2_with fail
       go_ret
       exact ⟨ret_bool HF.out.symm, HB2.out⟩
   ·skip
    have h57 : decide ((s[j].toNat : Int) ≤ 57) = false := decide_eq_false (by omega)
    go_wp2_with fail
    go_loopg [5, 6] 11 (fun g ok k wr => ∃ (q : Nat) (v : Bool), g = 11 - q ∧ q ≤ 11 ∧ k = .int .i64 q ∧ ok = .bool v ∧ (false || (marks11.take q).contains s[j]) = v ∧ Below w.heap.size w wr)
    case atStart => exact ⟨0, false, rfl, by omega, rfl, rfl, rfl, HB.out⟩
    case round =>
     obtain ⟨q, v, rfl, hq, rfl, rfl, hv, hb⟩ := hrel
     have HV := Lib.hid hv
     have HB2 := Lib.hid hb
     have hsz2 := hb.size
     clear hv hb
     by_cases hql : q < 11
     ·have hqM : q < M.size := by rw [hM1]; exact hql
      have hmq : marks11[q]? = some M[q] := by rw [← HM2.out]; exact List.getElem?_eq_getElem (by simpa using hqM)
      have HMQ := Lib.hid hmq
      clear hmq
      cases v with
      | true =>
       go_wp2_with fail
       go_region
       all_goals
        go_wp2_with fail
        go_roundg (11 - (q + 1))
        case measure => omega
        case rel => exact ⟨q + 1, true, rfl, by omega, by go_num, rfl, mark_true HV.out HMQ.out, by first | exact HB2.out.drew | exact HB2.out | fail⟩
      | false =>
       cases he : ((s[j].toNat : Int) == (M[q].toNat : Int)) with
       | true =>
        go_wp2_with fail
        go_region
        all_goals
         go_wp2_with fail
         go_roundg (11 - (q + 1))
         case measure => omega
         case rel => exact ⟨q + 1, true, rfl, by omega, by go_num, rfl, mark_hit HMQ.out he, by first | exact HB2.out.drew | exact HB2.out | fail⟩
       | false =>
        go_wp2_with fail
        go_region
        all_goals
         go_wp2_with fail
         go_roundg (11 - (q + 1))
         case measure => omega
         case rel => exact ⟨q + 1, false, rfl, by omega, by go_num, rfl, mark_miss HV.out HMQ.out he, by first | exact HB2.out.drew | exact HB2.out | fail⟩
     ·have hq11 : q = 11 := by omega
      subst hq11
      have HN := Lib.hid (show Dat.nameByte s[j] = v by
       rw [nameByte_eq, ← HV.out]
       simp only [show marks11.take 11 = marks11 from rfl]
       congr 1
       exact way_no (by omega))
      cases v with
      | true =>
       go_wp2_with fail
       go_roundg (s.size - (j + 1))
       case measure => omega
       case rel => exact ⟨j + 1, rfl, by omega, by go_num, all_next HA.out (hl ▸ hjl) HN.out, HB2.out⟩
      | false =>
       have HF := Lib.hid (show r = false by rw [← HR.out, all_not (i := j) (hl ▸ hjl) HN.out]; rfl)
       go_wp2_with fail
       go_ret
       exact ⟨ret_bool HF.out.symm, HB2.out⟩
   ·skip
    have h57 : decide ((s[j].toNat : Int) ≤ 57) = false := decide_eq_false (by omega)
    have h122 : decide ((s[j].toNat : Int) ≤ 122) = false := decide_eq_false (by omega)
    go_wp2_with fail
    go_loopg [5, 6] 11 (fun g ok k wr => ∃ (q : Nat) (v : Bool), g = 11 - q ∧ q ≤ 11 ∧ k = .int .i64 q ∧ ok = .bool v ∧ (false || (marks11.take q).contains s[j]) = v ∧ Below w.heap.size w wr)
    case atStart => exact ⟨0, false, rfl, by omega, rfl, rfl, rfl, HB.out⟩
    case round =>
     obtain ⟨q, v, rfl, hq, rfl, rfl, hv, hb⟩ := hrel
     have HV := Lib.hid hv
     have HB2 := Lib.hid hb
     have hsz2 := hb.size
     clear hv hb
     by_cases hql : q < 11
     ·have hqM : q < M.size := by rw [hM1]; exact hql
      have hmq : marks11[q]? = some M[q] := by rw [← HM2.out]; exact List.getElem?_eq_getElem (by simpa using hqM)
      have HMQ := Lib.hid hmq
      clear hmq
      cases v with
      | true =>
       go_wp2_with fail
       go_region
       all_goals
        go_wp2_with fail
        go_roundg (11 - (q + 1))
        case measure => omega
        case rel => exact ⟨q + 1, true, rfl, by omega, by go_num, rfl, mark_true HV.out HMQ.out, by first | exact HB2.out.drew | exact HB2.out | fail⟩
      | false =>
       cases he : ((s[j].toNat : Int) == (M[q].toNat : Int)) with
       | true =>
        go_wp2_with fail
        go_region
        all_goals
         go_wp2_with fail
         go_roundg (11 - (q + 1))
         case measure => omega
         case rel => exact ⟨q + 1, true, rfl, by omega, by go_num, rfl, mark_hit HMQ.out he, by first | exact HB2.out.drew | exact HB2.out | fail⟩
       | false =>
        go_wp2_with fail
        go_region
        all_goals
         go_wp2_with fail
         go_roundg (11 - (q + 1))
         case measure => omega
         case rel => exact ⟨q + 1, false, rfl, by omega, by go_num, rfl, mark_miss HV.out HMQ.out he, by first | exact HB2.out.drew | exact HB2.out | fail⟩
     ·have hq11 : q = 11 := by omega
      subst hq11
      have HN := Lib.hid (show Dat.nameByte s[j] = v by
       rw [nameByte_eq, ← HV.out]
       simp only [show marks11.take 11 = marks11 from rfl]
       congr 1
       exact way_no (by omega))
      cases v with
      | true =>
       go_wp2_with fail
       go_roundg (s.size - (j + 1))
       case measure => omega
       case rel => exact ⟨j + 1, rfl, by omega, by go_num, all_next HA.out (hl ▸ hjl) HN.out, HB2.out⟩
      | false =>
       have HF := Lib.hid (show r = false by rw [← HR.out, all_not (i := j) (hl ▸ hjl) HN.out]; rfl)
       go_wp2_with fail
       go_ret
       exact ⟨ret_bool HF.out.symm, HB2.out⟩
  ·obtain rfl : j = s.size := by omega
   rw [← hl, List.take_length] at HA
   have HT := Lib.hid (List.all_eq_true.2 HA.out)
   obtain ⟨x, y, z, hp⟩ : ∃ x y z, Num.parse s.data.toList = (x, y, z) := ⟨_, _, _, rfl⟩
   have HP := Lib.hid hp
   have HF := Lib.hid (show r = !z by rw [← HR.out, HT.out, hp]; rfl)
   clear hp
   go_wp2_with fail
   refine (rparse_to s x y z HP.out hs _).mono ?_
   rintro e' w1 ⟨rfl, hb1⟩
   go_wp2
   go_ret
   exact ⟨ret_bool HF.out.symm, Below.next HB.out hb1⟩
end
end Go.Proofs.YtigkhmppnnljiaaGreatDoor

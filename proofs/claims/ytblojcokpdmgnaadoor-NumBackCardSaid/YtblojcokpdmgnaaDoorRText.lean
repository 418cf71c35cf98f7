/-
  The contracts of corbelref01.digits, part, Text, Parse: what TextLaw says.
-/
import Derived.Test.YtblojcokpdmgnaaDoorParse
namespace Go.Proofs.YtblojcokpdmgnaaDoor
open Go.RowKit

theorem decDigits_step (m : Nat) (h : 10 ≤ m) : Lib.decDigits m = Lib.decDigits (m / 10) ++ [UInt8.ofNat (48 + m % 10)] := by
  rw [Lib.decDigits, dif_neg (by omega)]
theorem decDigits_last (m : Nat) (h : m < 10) : Lib.decDigits m = [UInt8.ofNat (48 + m)] := by
  rw [Lib.decDigits, dif_pos h]

/-- string([]byte{x}) of a byte. -/
theorem byte_str (W : World) (x : Int) (k : Nat) (c : UInt8) (hk : k < 256) (hx : x = k) (hc : UInt8.ofNat k = c) :
    (convert 66 9 (.slice (some ⟨W.heap.size, 0, none⟩) 1 1)).run Tryd.prog (W.alloc (.cells #[.int .u8 x] 5)) = .ok (.string ⟨[c].toArray⟩) (W.alloc (.cells #[.int .u8 x] 5)) := by
  refine run_convert_bytes_back (P := Tryd.prog) _ _ _ 5 ⟨W.heap.size, 0, none⟩ 1 [c] Tryd.underlying66 Tryd.underlying5 Tryd.underlying9 ?_
  intro j hj
  have hj0 : j = 0 := by simpa using hj
  subst hj0
  have e : c.toNat = k := by rw [← hc]; simp; omega
  have hn : (W.alloc (.cells #[.int .u8 x] 5)).heap[W.heap.size]? = some (.cells #[.int .u8 x] 5) := (MapKept.heap_alloc W _).1
  show (match (W.alloc (.cells #[.int .u8 x] 5)).heap[W.heap.size]? with | some (.cells c _ _) => _ | _ => _) = _
  rw [hn]
  simp [Addr.add, hx, e]

set_option maxRecDepth 100000 in
theorem rdigits_any (n : Nat) (hn : n ≤ 2147483647) (w : World) :
    Calls Tryd.prog 40 #[.int .i64 n] w fun e w' => e = .returned (.string ⟨(Lib.decDigits n).toArray⟩) ∧ Below w.heap.size w w' := by
  have hlen : (Lib.decDigits n).length ≤ 20 := by
    rw [Lib.decDigits_length]; exact Lib.nDigits_le20 n (by omega)
  go_enter Tryd.func40, Tryd.ntmps40
  go_wp2
  go_loopw [0, 3] (fun x y wr => ∃ (m : Nat) (t : List UInt8), x = .int .i64 m ∧ y = .string ⟨t.toArray⟩ ∧ m ≤ 2147483647 ∧ Lib.decDigits m ++ t = Lib.decDigits n ∧ Below w.heap.size w wr) (fun x _ _ => (intOf x).toNat)
  case atStart => exact ⟨n, [], rfl, rfl, hn, by simp, Below.self _⟩
  case round =>
    obtain ⟨m, t, rfl, rfl, hm, ht, hb⟩ := hrel
    have htl : t.length ≤ 20 := by
      have := congrArg List.length ht
      rw [List.length_append] at this; omega
    have HT := Lib.hid ht
    clear ht
    by_cases h : 9 < m
    · have hlt : m / 10 < m := by omega
      obtain ⟨c, hc⟩ : ∃ c, UInt8.ofNat (48 + m % 10) = c := ⟨_, rfl⟩
      have hT2 := Lib.hid (show Lib.decDigits (m / 10) ++ (c :: t) = Lib.decDigits n by
        rw [← HT.out, decDigits_step m (by omega), hc]; simp)
      have hcv := byte_str wr (48 + (m : Int) % 10) (48 + m % 10) c (by omega) (by omega) hc
      clear hc
      go_wp2
      go_roundw
      case rel => exact ⟨m / 10, c :: t, by go_num, (by
        show Value.string (⟨[c].toArray⟩ ++ ⟨t.toArray⟩) = _
        rw [str_app]; rfl), by omega, hT2.out, hb.alloc hb.size _⟩
      case measure => simp [intOf]; omega
    · obtain ⟨c, hc⟩ : ∃ c, UInt8.ofNat (48 + m) = c := ⟨_, rfl⟩
      have hT2 := Lib.hid (show c :: t = Lib.decDigits n by
        rw [← HT.out, decDigits_last m (by omega), hc]; simp)
      have hcv := byte_str wr (48 + (m : Int)) (48 + m) c (by omega) (by omega) hc
      clear hc
      go_wp2
      go_ret
      refine ⟨?_, hb.alloc hb.size _⟩
      show Ending.returned (.string (⟨[c].toArray⟩ ++ ⟨t.toArray⟩)) = _
      rw [str_app]
      exact ret_string hT2.out

namespace Num
/-- corbelref01.part: the digits that a text begins with, and how many. -/
def part (l : List UInt8) : Int × Int :=
  if 10 < (l.takeWhile isDigit).length then (0, 0) else (((Lib.decFrom 0 (l.takeWhile isDigit)).getD 0 : Nat), ((l.takeWhile isDigit).length : Nat))

theorem takeWhile_at (l : List UInt8) (k : Nat) (hk : k ≤ l.length) (h : ∀ b ∈ l.take k, isDigit b = true) (hs : ∀ b, l[k]? = some b → isDigit b = false) : l.takeWhile isDigit = l.take k := by
  induction l generalizing k with
  | nil => simp
  | cons b l ih =>
    cases k with
    | zero =>
      have := hs b rfl
      simp [List.takeWhile_cons, this]
    | succ k =>
      simp only [List.take_succ_cons, List.mem_cons, forall_eq_or_imp] at h
      simp only [List.takeWhile_cons, h.1, if_true, List.take_succ_cons]
      rw [ih k (by simpa using hk) h.2 (fun c hc => hs c (by simpa using hc))]
end Num

theorem ret_part {a b : Int} {p : Int × Int} (h : p = (a, b)) : Ending.returned (.tuple #[.int .i64 a, .int .i64 b]) = .returned (.tuple #[.int .i64 p.1, .int .i64 p.2]) := by
  rw [h]

theorem part_small {s : ByteArray} {k m : Nat} (hT : s.data.toList.takeWhile Num.isDigit = s.data.toList.take k) (hk : k ≤ s.size) (h10 : k ≤ 10) (hm : Lib.decFrom 0 (s.data.toList.take (min k 10)) = some m) :
    Num.part s.data.toList = ((m : Int), (k : Int)) := by
  have hl : (s.data.toList.take k).length = k := by rw [List.length_take]; exact Nat.min_eq_left hk
  have e : min k 10 = k := by omega
  rw [e] at hm
  unfold Num.part
  rw [hT, hl, if_neg (by omega), hm]
  rfl

theorem part_big {s : ByteArray} {k : Nat} (hT : s.data.toList.takeWhile Num.isDigit = s.data.toList.take k) (hk : k ≤ s.size) (h10 : ¬ k ≤ 10) :
    Num.part s.data.toList = (0, 0) := by
  have hl : (s.data.toList.take k).length = k := by rw [List.length_take]; exact Nat.min_eq_left hk
  unfold Num.part
  rw [hT, hl, if_pos (by omega)]

set_option maxHeartbeats 1000000 in
set_option maxRecDepth 100000 in
theorem rpart_any (s : ByteArray) (hs : s.size ≤ 140737488355328) (w : World) :
    Calls Tryd.prog 35 #[.string s] w fun e w' => e = .returned (.tuple #[.int .i64 (Num.part s.data.toList).1, .int .i64 (Num.part s.data.toList).2]) ∧ w = w' := by
  have hl : s.data.toList.length = s.size := rfl
  go_enter Tryd.func35, Tryd.ntmps35
  go_wp2
  go_loop [4, 5] (fun x y => ∃ (k m : Nat), x = .int .i64 m ∧ y = .int .i64 k ∧ k ≤ s.size ∧ (∀ b ∈ s.data.toList.take k, Num.isDigit b = true) ∧ Lib.decFrom 0 (s.data.toList.take (min k 10)) = some m) (fun _ y => s.size - (intOf y).toNat)
  case atStart => exact ⟨0, 0, rfl, rfl, by omega, by simp, rfl⟩
  case round =>
    obtain ⟨k, m, rfl, rfl, hk, hd, hm⟩ := hrel
    have hm10 : m < 10000000000 := by
      have := Lib.decFrom_lt _ 0 m hm
      have hp : 10 ^ (s.data.toList.take (min k 10)).length ≤ 10 ^ 10 := Nat.pow_le_pow_right (by omega) (by rw [List.length_take]; omega)
      omega
    have HM := Lib.hid hm
    have HD := Lib.hid hd
    clear hm hd
    by_cases hlt : k < s.size
    · have hget : s.data.toList[k]? = some s[k] := by
        rw [List.getElem?_eq_getElem (by rw [hl]; exact hlt)]; rfl
      have HG := Lib.hid hget
      clear hget
      have h256 : (s[k].toNat : Int) < 256 := by have := s[k].toNat_lt; omega
      cases hdig : Num.isDigit s[k] with
      | true =>
        have hb := hdig
        simp only [Num.isDigit, Bool.and_eq_true, decide_eq_true_eq] at hb
        obtain ⟨hb1, hb2⟩ := hb
        have hb3 : (48 : Int) ≤ s[k].toNat := by omega
        have hb4 : (s[k].toNat : Int) ≤ 57 := by omega
        have HD2 := Lib.hid (show ∀ b ∈ s.data.toList.take (k + 1), Num.isDigit b = true by
          rw [List.take_add_one, HG.out]
          intro b hb
          rcases List.mem_append.1 hb with hb | hb
          · exact HD.out b hb
          · simp at hb; subst hb; exact hdig)
        have hv := Num.digitVal_some hdig
        clear hdig
        by_cases h10 : k < 10
        · have HM2 := Lib.hid (show Lib.decFrom 0 (s.data.toList.take (min (k + 1) 10)) = some (m * 10 + (s[k].toNat - 48)) by
            have e1 : min (k + 1) 10 = k + 1 := by omega
            have e2 : min k 10 = k := by omega
            have := HM.out
            rw [e2] at this
            rw [e1]
            exact Lib.decFrom_take _ k 0 m _ _ this HG.out hv)
          clear hv
          go_wp2
          go_round
          case rel => exact ⟨k + 1, m * 10 + (s[k].toNat - 48), by go_num, by go_num, by omega, HD2.out, HM2.out⟩
          case measure => simp [intOf]; omega
        · have HM2 := Lib.hid (show Lib.decFrom 0 (s.data.toList.take (min (k + 1) 10)) = some m by
            have e1 : min (k + 1) 10 = min k 10 := by omega
            rw [e1]; exact HM.out)
          clear hv
          go_wp2
          go_round
          case rel => exact ⟨k + 1, m, rfl, by go_num, by omega, HD2.out, HM2.out⟩
          case measure => simp [intOf]; omega
      | false =>
        have HT := Lib.hid (show s.data.toList.takeWhile Num.isDigit = s.data.toList.take k from Num.takeWhile_at _ k (by rw [hl]; omega) HD.out (fun b hb => by rw [HG.out] at hb; cases hb; exact hdig))
        have hb : ¬ (48 ≤ s[k].toNat ∧ s[k].toNat ≤ 57) := by
          intro h; simp [Num.isDigit, h] at hdig
        clear hdig
        by_cases h48 : (48 : Int) ≤ s[k].toNat
        · have h57 : ¬ (s[k].toNat : Int) ≤ 57 := by omega
          clear hb
          by_cases h10 : k ≤ 10
          · go_wp2
            go_ret2
            exact ⟨ret_part (part_small HT.out hk h10 HM.out), rfl⟩
          · go_wp2
            go_ret2
            exact ⟨ret_part (part_big HT.out hk h10), rfl⟩
        · clear hb
          by_cases h10 : k ≤ 10
          · go_wp2
            go_ret2
            exact ⟨ret_part (part_small HT.out hk h10 HM.out), rfl⟩
          · go_wp2
            go_ret2
            exact ⟨ret_part (part_big HT.out hk h10), rfl⟩
    · have HT := Lib.hid (show s.data.toList.takeWhile Num.isDigit = s.data.toList.take k from Num.takeWhile_at _ k (by rw [hl]; omega) HD.out (fun b hb => by
        rw [List.getElem?_eq_none (by rw [hl]; omega)] at hb; cases hb))
      by_cases h10 : k ≤ 10
      · go_wp2
        go_ret2
        exact ⟨ret_part (part_small HT.out hk h10 HM.out), rfl⟩
      · go_wp2
        go_ret2
        exact ⟨ret_part (part_big HT.out hk h10), rfl⟩
end Go.Proofs.YtblojcokpdmgnaaDoor

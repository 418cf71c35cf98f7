/-
  The contract of datum.Right: a closure that calls itself through another.
-/
import Derived.Test.YtlpkpkcfgchngaaDoorBare
import Derived.Test.YtlpkpkcfgchngaaDoorSlices
namespace Go.Proofs.YtlpkpkcfgchngaaDoor
open Go.RowKit

/-- datum.bare, in one: a datum's head is right just if bare says so and gives back the same. -/
theorem bare_any (k n d : Int) (s : ByteArray) (o : Option Addr) (len cap : Nat) (hn : -9223372036854775808 ≤ n ∧ n ≤ 9223372036854775807) (hd : -9223372036854775808 ≤ d ∧ d ≤ 9223372036854775807) (hs : s.size ≤ 140737488351232) :
    ∃ (k' n' d' : Int) (s' : ByteArray) (o' : Option Addr) (len' cap' : Nat) (b : Bool), (∀ w, Calls Tryd.prog 17 #[.agg #[.int .i64 k, .int .i64 n, .int .i64 d, .string s, .slice o len cap]] w fun e w' => e = .returned (.tuple #[.agg #[.int .i64 k', .int .i64 n', .int .i64 d', .string s', .slice o' len' cap'], .bool b]) ∧ Below w.heap.size w w') ∧
      Dat.head k n d s.data.toList len = (b && (decide (n' = n) && (decide (d' = d) && (decide (s' = s) && decide (len' = len))))) := by
  have hz : ∀ m : Int, decide (0 = m) = decide (m = 0) := fun m => by rw [Bool.eq_iff_iff]; simp only [decide_eq_true_eq]; exact eq_comm
  have hzl : ∀ m : Nat, decide (0 = m) = decide (m = 0) := fun m => by rw [Bool.eq_iff_iff]; simp only [decide_eq_true_eq]; exact eq_comm
  have he : decide ((⟨#[]⟩ : ByteArray) = s) = s.data.toList.isEmpty := by
    rw [Bool.eq_iff_iff]
    simp only [decide_eq_true_eq, List.isEmpty_iff]
    constructor
    · rintro rfl; rfl
    · intro h; apply ByteArray.ext; apply Array.ext'; rw [h]
  by_cases k0 : k = 0
  · subst k0
    exact ⟨_, _, _, _, _, _, _, _, fun w => bare_0 n d s o len cap hn.1 hn.2 hd.1 hd.2 w, by rw [Dat.head, if_pos rfl, he, hzl]; simp⟩
  by_cases k1 : k = 1
  · subst k1
    have hh : Dat.head 1 n d s.data.toList len = (decide (n = 0 ∨ n = 1) && (decide (n = n) && (decide (0 = d) && (decide ((⟨#[]⟩ : ByteArray) = s) && decide (0 = len))))) := by
      rw [Dat.head, if_neg (by omega), if_pos rfl, he, hzl, hz]; simp only [decide_true, Bool.true_and]; rw [← Bool.and_assoc, Bool.and_comm (decide (d = 0)), Bool.and_assoc]
    by_cases n0 : n = 0
    · exact ⟨_, _, _, _, _, _, _, _, fun w => bare_1a n d s o len cap (by simp [n0]) w, by rw [hh, decide_eq_true (Or.inl n0)]⟩
    by_cases n1 : n = 1
    · exact ⟨_, _, _, _, _, _, _, _, fun w => bare_1b n d s o len cap (by simp [n0]) (by simp [n1]) w, by rw [hh, decide_eq_true (Or.inr n1)]⟩
    · exact ⟨_, _, _, _, _, _, _, _, fun w => bare_1c n d s o len cap (by simp [n0]) (by simp [n1]) w, by rw [hh, decide_eq_false (by omega : ¬ (n = 0 ∨ n = 1))]⟩
  have flip : ∀ a b c e : Bool, (a && (b && (c && e))) = (c && (b && (a && (true && e)))) := by decide
  by_cases k2 : k = 2
  · subst k2
    exact ⟨_, _, _, _, _, _, _, _, fun w => bare_2 n d s o len cap hs w, by rw [Dat.head, if_neg (by omega), if_neg (by omega), if_pos rfl, hz, hz, hzl, decide_eq_true (rfl : s = s)]; exact flip _ _ _ _⟩
  by_cases k3 : k = 3
  · subst k3
    exact ⟨_, _, _, _, _, _, _, _, fun w => bare_3 n d s o len cap hs w, by rw [Dat.head, if_neg (by omega), if_neg (by omega), if_neg (by omega), if_pos rfl, hz, hz, hzl, decide_eq_true (rfl : s = s)]; exact flip _ _ _ _⟩
  have flip2 : ∀ a b c e : Bool, (a && (b && (c && e))) = (true && (b && (a && (c && e)))) := by decide
  by_cases k4 : k = 4
  · subst k4
    exact ⟨_, _, _, _, _, _, _, _, fun w => bare_4 n d s o len cap w, by rw [Dat.head, if_neg (by omega), if_neg (by omega), if_neg (by omega), if_neg (by omega), if_pos (by omega), hz, hz, hzl, he]; exact flip2 _ _ _ _⟩
  by_cases k5 : k = 5
  · subst k5
    exact ⟨_, _, _, _, _, _, _, _, fun w => bare_5 n d s o len cap w, by rw [Dat.head, if_neg (by omega), if_neg (by omega), if_neg (by omega), if_neg (by omega), if_pos (by omega), hz, hz, hzl, he]; exact flip2 _ _ _ _⟩
  have flip3 : ∀ a b c e : Bool, (a && (b && (c && e))) = (e && (b && (a && (c && true)))) := by decide
  by_cases k6 : k = 6
  · subst k6
    have hh : Dat.head 6 n d s.data.toList len = (decide (len = 2) && (decide (0 = n) && (decide (0 = d) && (decide ((⟨#[]⟩ : ByteArray) = s) && decide (len = len))))) := by
      rw [Dat.head, if_neg (by omega), if_neg (by omega), if_neg (by omega), if_neg (by omega), if_neg (by omega), if_pos rfl, hz, hz, he, decide_eq_true (rfl : len = len)]; exact flip3 _ _ _ _
    by_cases l2 : len = 2
    · subst l2
      exact ⟨_, _, _, _, _, _, _, _, fun w => bare_6a n d s o cap w, by rw [hh]; rfl⟩
    · exact ⟨_, _, _, _, _, _, _, _, fun w => bare_6b n d s o len cap (by simp; omega) w, by rw [hh, decide_eq_false l2]⟩
  have flip4 : ∀ a b c : Bool, (a && (b && c)) = (true && (b && (a && (c && true)))) := by decide
  by_cases k7 : k = 7
  · subst k7
    exact ⟨_, _, _, _, _, _, _, _, fun w => bare_7 n d s o len cap w, by rw [Dat.head, if_neg (by omega), if_neg (by omega), if_neg (by omega), if_neg (by omega), if_neg (by omega), if_neg (by omega), if_pos rfl, hz, hz, he, decide_eq_true (rfl : len = len)]; exact flip4 _ _ _⟩
  · exact ⟨_, _, _, _, _, _, _, _, fun w => bare_8 k n d s o len cap (by omega) w, by rw [Dat.head, if_neg k0, if_neg k1, if_neg k2, if_neg k3, if_neg (by omega), if_neg k6, if_neg k7]; rfl⟩

theorem rightL_any (l : List Dat) (deep : Nat) : Dat.rightL l deep = !(l.any fun x => !Dat.right x deep) := by
  induction l with
  | nil => rfl
  | cons x l ih => rw [Dat.rightL, ih, List.any_cons]; cases Dat.right x deep <;> simp

set_option maxHeartbeats 1000000 in
theorem right11_any (x : Dat) (v : Value) (deep c pb : Nat) (w : World) (r : Bool) (hfn : w.cell? ⟨c, 0, none⟩ = some (.func (.func 16) #[] #[.pointer (some ⟨c, 0, none⟩)])) (hpb : w.cell? ⟨pb, 0, none⟩ = some (.int .i64 deep)) (hdeep : deep ≤ 200) (hc : c < w.heap.size) (hp : pb < w.heap.size)
    (hv : ∃ (k n d : Int) (s : ByteArray) (o : Option Addr) (len cap : Nat), v = .agg #[.int .i64 k, .int .i64 n, .int .i64 d, .string s, .slice o len cap])
    (H : ∀ w', Below w.heap.size w w' → Calls Tryd.prog 16 #[v, .int .i64 (deep + 1 : Nat), .pointer (some ⟨c, 0, none⟩)] w' fun e w'' => e = .returned (.bool r) ∧ Below w'.heap.size w' w'') :
    Calls Tryd.prog 19 #[v, .pointer (some ⟨c, 0, none⟩), .pointer (some ⟨pb, 0, none⟩)] w fun e w' => e = .returned (.bool !r) ∧ Below w.heap.size w w' := by
  obtain ⟨k, n, d, s, o, len, cap, rfl⟩ := hv
  have HW : ∀ X, Below w.heap.size w (w.alloc X) := fun X => (Below.refl _ _).alloc (Nat.le_refl _) _
  have HWH := Lib.hid HW
  have HH := Lib.hid H
  have hcn : ¬ c = w.heap.size := by omega
  have hpn : ¬ pb = w.heap.size := by omega
  clear HW H
  go_enter Tryd.func19, Tryd.ntmps19
  go_wp2_with (first | (go_at_call 16; refine (HH.out _ (HWH.out _)).mono ?_; rintro e' w1 ⟨rfl, hb⟩))
  go_ret
  exact ⟨rfl, (HWH.out _).trans (hb.mono (by simp))⟩
end Go.Proofs.YtlpkpkcfgchngaaDoor

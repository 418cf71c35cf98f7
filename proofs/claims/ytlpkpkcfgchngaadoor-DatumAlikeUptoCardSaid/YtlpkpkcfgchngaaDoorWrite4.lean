/-
  The contracts of datum.write, datum.Text.
-/
import Derived.Test.YtlpkpkcfgchngaaDoorWrite3
namespace Go.Proofs.YtlpkpkcfgchngaaDoor
open Go.RowKit

/-- The ways in which a head is right. -/
theorem head_ways {k n d : Int} {s : List UInt8} {len : Nat} (h : Dat.head k n d s len = true) :
    (k = 0 ∧ Num.right n d = true) ∨ (k = 1 ∧ (n = 0 ∨ n = 1)) ∨ k = 2 ∨ k = 3 ∨ k = 4 ∨ k = 5 ∨ (k = 6 ∧ len = 2) ∨ k = 7 := by
  unfold Dat.head at h
  by_cases k0 : k = 0
  · rw [if_pos k0] at h; simp only [Bool.and_eq_true] at h; exact .inl ⟨k0, h.1⟩
  rw [if_neg k0] at h
  by_cases k1 : k = 1
  · rw [if_pos k1] at h; simp only [Bool.and_eq_true, decide_eq_true_eq] at h; exact .inr (.inl ⟨k1, h.2.1⟩)
  rw [if_neg k1] at h
  by_cases k2 : k = 2
  · exact .inr (.inr (.inl k2))
  rw [if_neg k2] at h
  by_cases k3 : k = 3
  · exact .inr (.inr (.inr (.inl k3)))
  rw [if_neg k3] at h
  by_cases k4 : k = 4
  · exact .inr (.inr (.inr (.inr (.inl k4))))
  by_cases k5 : k = 5
  · exact .inr (.inr (.inr (.inr (.inr (.inl k5)))))
  rw [if_neg (by omega)] at h
  by_cases k6 : k = 6
  · rw [if_pos k6] at h; simp only [Bool.and_eq_true, decide_eq_true_eq] at h; exact .inr (.inr (.inr (.inr (.inr (.inr (.inl ⟨k6, h.2.2.2⟩))))))
  rw [if_neg k6] at h
  by_cases k7 : k = 7
  · exact .inr (.inr (.inr (.inr (.inr (.inr (.inr k7))))))
  rw [if_neg k7] at h; cases h

theorem write_all (B b : Nat) : ∀ (N : Nat) (x : Dat), Dat.all x < N → Dat.right x 0 = true → Writes B b x := by
  intro N
  induction N with
  | zero => intro x h; omega
  | succ N ih =>
    intro x hx hr v l1 W hb hv hB hE hl
    obtain ⟨k, n, d, s, l⟩ := x
    obtain ⟨sl, rfl, bk, bn, bd, bs, hs⟩ := hv.open
    have hr2 := hr
    simp only [Dat.right, Bool.and_eq_true, decide_eq_true_eq] at hr
    have hw := head_ways hr.2.1
    rw [Dat.text] at hl ⊢
    obtain ⟨o, len, cap, rfl, hrest⟩ := hs
    have HS : RepS W B l (.slice o len cap) := ⟨o, len, cap, rfl, hrest⟩
    rcases hw with ⟨rfl, _⟩ | ⟨rfl, rfl | rfl⟩ | rfl | rfl | rfl | rfl | ⟨rfl, h2⟩ | rfl
    · rw [if_neg (by omega), if_neg (by simp), Dat.textA, if_pos rfl] at hl ⊢
      exact write_0 B b l1 n d s o len cap W hb hB hE bn.1 bn.2 bd.1 bd.2 _ rfl hl
    · rw [if_neg (by omega), if_neg (by simp), Dat.textA, if_neg (by omega), if_pos rfl, if_neg (by omega)] at hl ⊢
      exact write_1a B b l1 d s o len cap W hb hB hl
    · rw [if_neg (by omega), if_neg (by simp), Dat.textA, if_neg (by omega), if_pos rfl, if_pos rfl] at hl ⊢
      exact write_1b B b l1 d s o len cap W hb hB hl
    · rw [if_neg (by omega), if_neg (by simp), Dat.textA, if_neg (by omega), if_neg (by omega), if_pos rfl] at hl ⊢
      exact write_2 B b l1 n d s o len cap W hb hB hl
    · rw [if_neg (by omega), if_neg (by simp), Dat.textA, if_neg (by omega), if_neg (by omega), if_neg (by omega), if_pos rfl] at hl ⊢
      exact write_3 B b l1 n d s o len cap W hb hB bs hl
    · rw [if_neg (by omega), if_neg (by simp), Dat.textA, if_neg (by omega), if_neg (by omega), if_neg (by omega), if_neg (by omega), if_pos rfl] at hl ⊢
      exact write_4 B b l1 n d s o len cap W hb hB hl
    · rw [if_neg (by omega), if_neg (by simp), Dat.textA, if_neg (by omega), if_neg (by omega), if_neg (by omega), if_neg (by omega), if_neg (by omega), if_pos rfl] at hl ⊢
      exact write_5 B b l1 n d s o len cap W hb hB hl
    · obtain ⟨a, c, rfl, rfl, rfl, rfl, ha, hc⟩ := right_pair hr2
      rw [if_pos rfl, if_neg (by simp)] at hl ⊢
      have hall : Dat.all (.mk 6 0 0 ⟨#[]⟩ [a, c]) = 1 + (Dat.all a + (Dat.all c + 0)) := rfl
      exact write_6 B b l1 0 0 ⟨#[]⟩ a c _ W hb hB hE HS ha hc (fun y hy hyr => ih y (by omega) hyr) hl
    · rw [if_neg (by omega), if_neg (by simp), Dat.textA, if_neg (by omega), if_neg (by omega), if_neg (by omega), if_neg (by omega), if_neg (by omega), if_neg (by omega)] at hl ⊢
      have hall : Dat.all (.mk 7 n d s l) = 1 + Dat.allL l := rfl
      exact write_7 B b l1 n d s l _ W hb hB hE HS (fun y hy => ih y (by have := Dat.all_mem hy; omega) (Dat.right_part hr2 hy)) hl

theorem write_any (B b : Nat) (x : Dat) (hr : Dat.right x 0 = true) : Writes B b x := write_all B b (Dat.all x + 1) x (by omega) hr

/-- datum.Text, as a list of bytes. -/
def Dat.full (x : Dat) : List UInt8 := if Dat.right x 0 then Dat.text x false else []

set_option maxHeartbeats 2000000 in
theorem dtext_any (x : Dat) (v : Value) (B : Nat) (w : World) (hv : RepD w B x v) (hB : B ≤ w.heap.size) (hE : Env w) (hl : Dat.right x 0 = true → (Dat.text x false).length ≤ 140737488355328) :
    Calls Tryd.prog 10 #[v] w fun e w' => e = .returned (.string ⟨(Dat.full x).toArray⟩) ∧ Below w.heap.size w w' := by
  obtain ⟨k, n, d, s, o, len, cap, rfl⟩ := agg_of hv
  have HV := Lib.hid hv
  have HE := Lib.hid hE
  have HL := Lib.hid hl
  have HK := Lib.hid (fun X => (Below.refl w.heap.size w).alloc (Nat.le_refl _) X)
  have C1 := Lib.hid (fun W (hb : Below w.heap.size w W) => dright_any x _ B W (HV.out.kept (hb.mono hB)) (Nat.le_trans hB hb.size))
  clear hv hE hl
  cases hr : Dat.right x 0 with
  | false =>
    have HF := Lib.hid (show Dat.full x = [] by unfold Dat.full; rw [hr]; rfl)
    rw [hr] at C1
    clear hr
    go_enter Tryd.func10, Tryd.ntmps10
    go_wp2_with fail
    refine (C1.out _ (HK.out _)).mono ?_
    rintro e' w1 ⟨rfl, hb1⟩
    go_wp2
    go_ret
    exact ⟨by rw [HF.out]; rfl, one_below hb1⟩
  | true =>
    have HF := Lib.hid (show Dat.full x = Dat.text x false by unfold Dat.full; rw [hr]; rfl)
    rw [hr] at C1
    have HR := Lib.hid hr
    clear hr
    go_enter Tryd.func10, Tryd.ntmps10
    go_wp2_with fail
    refine (C1.out _ (HK.out _)).mono ?_
    rintro e' w1 ⟨rfl, hb1⟩
    have hz := one_size hb1
    have z0 : w.heap.size < w1.heap.size := by omega
    obtain ⟨q0, q1, q2, q3, q4⟩ := one_five hb1
    have HB := Lib.hid (one_below hb1)
    clear hb1
    go_wp2_with fail
    have HW := Lib.hid ((Below.refl w1.heap.size w1).alloc (Nat.le_refl _) (.cells #[.pointer none, .slice none 0 0] 41))
    refine (write_any w1.heap.size w1.heap.size x HR.out _ [] _ (IsB.fresh w1 _ rfl) ((HV.out.kept ((Below.next HB.out HW.out).mono hB)).wider (by omega)) (by simp) ((EnvAt.of (HE.out.below HB.out)).kept HW.out) (by simpa using HL.out HR.out)).mono ?_
    rintro e' w2 ⟨rfl, hb2, hk2⟩
    have HB2 := Lib.hid hb2
    have HK2 := Lib.hid hk2
    clear hb2 hk2
    go_wp2_with fail
    refine (bstring_any w1.heap.size w1.heap.size _ w2 HB2.out (by have := HK2.out.size; simp at this; omega)).mono ?_
    rintro e' w3 ⟨rfl, hb3⟩
    go_wp2
    go_ret
    refine ⟨by rw [HF.out]; rfl, ?_⟩
    exact HB.out.trans (((HW.out.trans HK2.out.1).trans hb3).mono (by omega))
end Go.Proofs.YtlpkpkcfgchngaaDoor

/-
  The plain laws of numbers, by Lean's own rationals: what Make, Add .. give is the rational's numerator and denominator, where both are small.
-/
import Derived.Test.YtlpkpkcfgchngaaDoorNumLaw
namespace Go.Proofs.YtlpkpkcfgchngaaDoor
namespace Num

/-- A rational as num's calls answer it. -/
def ofQ (q : Rat) : Int × Int × Int := if q.num.natAbs ≤ 2147483647 ∧ q.den ≤ 2147483647 then (q.num, (q.den : Int), 0) else (0, 0, 3)

theorem mk_eq {n d : Int} (hd : d ≠ 0) : mk n d = ofQ (Rat.divInt n d) := by
  have hg : Int.gcd n d ≠ 0 := gcd_ne hd
  have hdn : Int.gcd n d ∣ n.natAbs := Int.ofNat_dvd_left.1 (Int.gcd_dvd_left ..)
  have hnum : (Rat.divInt n d).num = if n < 0 ↔ d < 0 then ((n.natAbs / Int.gcd n d : Nat) : Int) else -((n.natAbs / Int.gcd n d : Nat) : Int) := by
    rw [Rat.num_divInt, Int.gcd_comm d n]
    obtain ⟨k, hk⟩ := hdn
    have hk' : n.natAbs / Int.gcd n d = k := by rw [hk]; exact Nat.mul_div_cancel_left _ (by omega)
    rw [hk']
    have e : d.sign * n = if n < 0 ↔ d < 0 then (n.natAbs : Int) else -(n.natAbs : Int) := by
      rcases Int.lt_trichotomy d 0 with h | h | h
      · rw [Int.sign_eq_neg_one_of_neg h]; split <;> omega
      · exact absurd h hd
      · rw [Int.sign_eq_one_of_pos h]; split <;> omega
    rw [e, hk]
    have hz : ((Int.gcd n d : Nat) : Int) ≠ 0 := by omega
    split
    · rw [Int.natCast_mul]; exact Int.mul_ediv_cancel_left _ hz
    · rw [Int.natCast_mul, ← Int.mul_neg]; exact Int.mul_ediv_cancel_left _ hz
  have hden : (Rat.divInt n d).den = d.natAbs / Int.gcd n d := by
    rw [Rat.den_divInt, if_neg hd, Int.gcd_comm]
  unfold mk ofQ
  rw [if_neg hd, hnum, hden]
  generalize n.natAbs / Int.gcd n d = A
  generalize d.natAbs / Int.gcd n d = B
  have e2 : (if n < 0 ↔ d < 0 then (A : Int) else -(A : Int)).natAbs = A := by
    split <;> simp
  rw [e2]
  have e3 : (A ≤ 2147483647 ∧ B ≤ 2147483647) ↔ ¬ (2147483647 < A ∨ 2147483647 < B) := by omega
  by_cases h : 2147483647 < A ∨ 2147483647 < B <;> by_cases h2 : n < 0 ↔ d < 0 <;> simp only [e3, h, h2, not_true_eq_false, not_false_eq_true, if_true, if_false]

theorem mk_zero (n : Int) : mk n 0 = (0, 0, 4) := rfl

/-- What a right pair is. -/
theorem right_q {n d : Int} (h : right n d = true) : (Rat.divInt n d).num = n ∧ ((Rat.divInt n d).den : Int) = d := by
  rw [right_iff] at h
  obtain ⟨h1, h2, h3, h4, h5⟩ := h
  constructor
  · rw [Rat.num_divInt, Int.gcd_comm, h5, Int.sign_eq_one_of_pos (by omega)]; simp
  · rw [Rat.den_divInt, if_neg (by omega), Int.gcd_comm, h5]; omega

theorem right_ne {n d : Int} (h : right n d = true) : d ≠ 0 := by
  rw [right_iff] at h; omega

/-- Two right pairs of one rational are one. -/
theorem right_inj {n d m e : Int} (h : right n d = true) (h' : right m e = true) (hq : Rat.divInt n d = Rat.divInt m e) : n = m ∧ d = e := by
  have a := right_q h
  have b := right_q h'
  rw [hq] at a
  exact ⟨a.1.symm.trans b.1, a.2.symm.trans b.2⟩

theorem ofQ_end (q : Rat) : (ofQ q).2.2 = 0 ∨ ((ofQ q).2.2 = 3 ∧ (ofQ q).1 = 0 ∧ (ofQ q).2.1 = 0) := by
  unfold ofQ; split <;> simp

theorem ofQ_done {q : Rat} {a b : Int} (h : ofQ q = (a, b, 0)) : right a b = true ∧ Rat.divInt a b = q := by
  unfold ofQ at h
  split at h
  · rename_i hb
    simp only [Prod.mk.injEq, and_true] at h
    obtain ⟨rfl, rfl⟩ := h
    refine ⟨?_, Rat.num_divInt_den q⟩
    rw [right_iff]
    have := q.den_nz
    have hr := q.reduced
    refine ⟨by omega, by omega, by omega, by omega, ?_⟩
    rw [Int.gcd, Int.natAbs_natCast]; exact hr
  · simp at h

theorem ofQ_right {n d : Int} (h : right n d = true) : ofQ (Rat.divInt n d) = (n, d, 0) := by
  have a := right_q h
  have b := h
  rw [right_iff] at b
  unfold ofQ
  rw [if_pos (by rw [a.1]; omega), a.1, a.2]

theorem mk_end (n d : Int) : ((mk n d).2.2 = 0 ∧ d ≠ 0) ∨ ((mk n d).2.2 = 3 ∧ (mk n d).1 = 0 ∧ (mk n d).2.1 = 0) ∨ ((mk n d).2.2 = 4 ∧ (mk n d).1 = 0 ∧ (mk n d).2.1 = 0) := by
  by_cases hd : d = 0
  · subst hd; right; right; exact ⟨rfl, rfl, rfl⟩
  · rw [mk_eq hd]
    rcases ofQ_end (Rat.divInt n d) with h | h
    · exact .inl ⟨h, hd⟩
    · exact .inr (.inl h)

theorem mk_done {n d a b : Int} (h : mk n d = (a, b, 0)) : right a b = true ∧ Rat.divInt a b = Rat.divInt n d := by
  by_cases hd : d = 0
  · subst hd; rw [mk_zero] at h; simp at h
  · rw [mk_eq hd] at h; exact ofQ_done h

theorem add_eq {n d m e : Int} (h : right n d = true) (h' : right m e = true) : add n d m e = ofQ (Rat.divInt n d + Rat.divInt m e) := by
  have a := right_ne h
  have b := right_ne h'
  rw [add, h, h', Rat.divInt_add_divInt _ _ a b]
  simp only [Bool.and_self, if_true]
  rw [mk_eq (Int.mul_ne_zero a b)]

theorem sub_eq {n d m e : Int} (h : right n d = true) (h' : right m e = true) : sub n d m e = ofQ (Rat.divInt n d - Rat.divInt m e) := by
  have a := right_ne h
  have b := right_ne h'
  rw [sub, h, h', Rat.divInt_sub_divInt _ _ a b]
  simp only [Bool.and_self, if_true]
  rw [mk_eq (Int.mul_ne_zero a b)]

theorem mul_eq {n d m e : Int} (h : right n d = true) (h' : right m e = true) : mul n d m e = ofQ (Rat.divInt n d * Rat.divInt m e) := by
  have a := right_ne h
  have b := right_ne h'
  rw [mul, h, h', Rat.divInt_mul_divInt]
  simp only [Bool.and_self, if_true]
  rw [mk_eq (Int.mul_ne_zero a b)]

theorem div_eq {n d m e : Int} (h : right n d = true) (h' : right m e = true) (hm : m ≠ 0) : div n d m e = ofQ (Rat.divInt n d / Rat.divInt m e) := by
  have a := right_ne h
  rw [div, h, h', Rat.div_def, Rat.inv_divInt, Rat.divInt_mul_divInt]
  simp only [Bool.and_self, if_true]
  rw [mk_eq (Int.mul_ne_zero a hm)]

theorem divInt_lt {n d m e : Int} (hd : 0 < d) (he : 0 < e) : Rat.divInt n d < Rat.divInt m e ↔ n * e < m * d := by
  rw [Rat.lt_iff_sub_pos, Rat.divInt_sub_divInt _ _ (by omega) (by omega)]
  have hde : 0 < d * e := Int.mul_pos hd he
  have key := Rat.divInt_nonneg_iff_of_pos_right (a := n * e - m * d) hde
  have hneg : (Rat.divInt (m * d - n * e) (d * e)) = -(Rat.divInt (n * e - m * d) (d * e)) := by
    rw [Rat.neg_divInt]; congr 1; omega
  have hcomm : Rat.divInt (m * d - n * e) (e * d) = Rat.divInt (m * d - n * e) (d * e) := by rw [Int.mul_comm e d]
  rw [hcomm, hneg]
  constructor
  · intro h
    rw [Rat.lt_neg_iff] at h
    have h2 : ¬ (0 : Rat) ≤ Rat.divInt (n * e - m * d) (d * e) := by
      rw [Rat.not_le]; simpa using h
    rw [key] at h2
    omega
  · intro h
    rw [Rat.lt_neg_iff]
    have h2 : ¬ (0 : Rat) ≤ Rat.divInt (n * e - m * d) (d * e) := by
      rw [key]; omega
    rw [Rat.not_le] at h2
    simpa using h2

theorem less_eq {n d m e : Int} (h : right n d = true) (h' : right m e = true) : less n d m e = decide (Rat.divInt n d < Rat.divInt m e) := by
  have a := h
  have b := h'
  rw [right_iff] at a b
  rw [less, h, h']
  simp only [Bool.and_self, Bool.true_and]
  rw [decide_eq_decide]
  exact (divInt_lt (by omega) (by omega)).symm

/-! ### the reference's ways -/

theorem right_neg (m e : Int) : right (-m) e = right m e := by
  rw [Bool.eq_iff_iff, right_iff, right_iff, Int.neg_gcd]
  omega

theorem rsub_eq (n d m e : Int) : rsub n d m e = sub n d m e := by
  unfold rsub sub add
  rw [right_neg]
  split
  · rw [Int.neg_mul, ← Int.sub_eq_add_neg]
  · rfl

theorem mk_congr {n d m e : Int} (hd : d ≠ 0) (he : e ≠ 0) (h : n * e = m * d) : mk n d = mk m e := by
  rw [mk_eq hd, mk_eq he, (Rat.divInt_eq_divInt_iff hd he).2 h]

theorem rmul_mk {n d m e : Int} (hd : d ≠ 0) (he : e ≠ 0) :
    mk (n.tdiv (Int.gcd n e) * m.tdiv (Int.gcd m d)) (d.tdiv (Int.gcd m d) * e.tdiv (Int.gcd n e)) = mk (n * m) (d * e) := by
  have hg : Int.gcd n e ≠ 0 := gcd_ne he
  have hh : Int.gcd m d ≠ 0 := gcd_ne hd
  have dn : ((Int.gcd n e : Nat) : Int) ∣ n := Int.gcd_dvd_left ..
  have de : ((Int.gcd n e : Nat) : Int) ∣ e := Int.gcd_dvd_right ..
  have dm : ((Int.gcd m d : Nat) : Int) ∣ m := Int.gcd_dvd_left ..
  have dd : ((Int.gcd m d : Nat) : Int) ∣ d := Int.gcd_dvd_right ..
  generalize Int.gcd n e = g at *
  generalize Int.gcd m d = h at *
  have hg' : (g : Int) ≠ 0 := by omega
  have hh' : (h : Int) ≠ 0 := by omega
  obtain ⟨n', rfl⟩ := dn
  obtain ⟨e', rfl⟩ := de
  obtain ⟨m', rfl⟩ := dm
  obtain ⟨d', rfl⟩ := dd
  rw [Int.mul_tdiv_cancel_left _ hg', Int.mul_tdiv_cancel_left _ hg', Int.mul_tdiv_cancel_left _ hh', Int.mul_tdiv_cancel_left _ hh']
  refine mk_congr (Int.mul_ne_zero ?_ ?_) (Int.mul_ne_zero hd he) ?_
  · rintro rfl; simp at hd
  · rintro rfl; simp at he
  · grind

theorem rmul_eq (n d m e : Int) : rmul n d m e = mul n d m e := by
  unfold rmul mul
  split
  · rename_i h
    rw [Bool.and_eq_true] at h
    exact rmul_mk (right_ne h.1) (right_ne h.2)
  · rfl

theorem rdiv_eq (n d m e : Int) : rdiv n d m e = div n d m e := by
  unfold rdiv div
  split
  · rename_i h
    rw [Bool.and_eq_true] at h
    have hd := right_ne h.1
    have he := right_ne h.2
    split
    · rename_i hm; subst hm; rw [Int.mul_zero]; rfl
    · rename_i hm
      have h2 := h.2
      rw [right_iff] at h2
      split
      · rename_i hl
        have hr : right (-e) (-m) = true := by
          rw [right_iff, Int.neg_gcd, Int.gcd_neg, Int.gcd_comm]; omega
        rw [rmul_eq, mul, h.1, hr]
        simp only [Bool.and_self, if_true]
        refine mk_congr (Int.mul_ne_zero hd (by omega)) (Int.mul_ne_zero hd hm) (by grind)
      · rename_i hl
        have hr : right e m = true := by
          rw [right_iff, Int.gcd_comm]; omega
        rw [rmul_eq, mul, h.1, hr]
        simp only [Bool.and_self, if_true]
  · rfl

end Num
end Go.Proofs.YtlpkpkcfgchngaaDoor

/-
  What the proofs lean on: MkLst, FEndsW.
-/
import Derived.BigQuiet
import Derived.Test.YtigkhmppnnljiaaGreatDoorFlatA14
import Derived.Test.YtigkhmppnnljiaaGreatDoorFlatA19
import Derived.Test.YtigkhmppnnljiaaGreatDoorFlatA22
import Derived.Test.YtigkhmppnnljiaaGreatDoorFlatA27
import Derived.Test.YtigkhmppnnljiaaGreatDoorFlatA35
namespace Go.Proofs.YtigkhmppnnljiaaGreatDoor
namespace Mk

/-- All lists are at most so long. -/
def Lst (N : Nat) (s : MSt) : Prop := ∀ x ∈ s.code, x.l.length ≤ N
theorem Lst.put {N : Nat} {s : MSt} (h : Lst N s) {x : Ins} (hx : x.l.length ≤ N) : Lst N (s.put x) := fun y hy => by
  rcases List.mem_append.1 hy with hy | hy
  · exact h y hy
  · rw [List.mem_singleton.1 hy]; exact hx
theorem Lst.same {N : Nat} {s t : MSt} (h : Lst N s) (e : t.code = s.code) : Lst N t := fun y hy => h y (by rw [← e]; exact hy)
theorem mem_modify {f : Ins → Ins} : ∀ {l : List Ins} {k : Nat} {x : Ins}, x ∈ l.modify k f → x ∈ l ∨ ∃ y ∈ l, x = f y
  | [], k, x, h => by cases k <;> simp at h
  | y :: l, 0, x, h => by
    simp only [List.modify_zero_cons, List.mem_cons] at h
    rcases h with h | h
    · exact .inr ⟨y, by simp, h⟩
    · exact .inl (by simp [h])
  | y :: l, k + 1, x, h => by
    simp only [List.modify_succ_cons, List.mem_cons] at h
    rcases h with h | h
    · exact .inl (by simp [h])
    · rcases mem_modify h with h | ⟨z, hz, h⟩
      · exact .inl (by simp [h])
      · exact .inr ⟨z, by simp [hz], h⟩
theorem Lst.setA {N : Nat} {s : MSt} (h : Lst N s) (k : Nat) (a : Int) : Lst N (s.setA k a) := fun y hy => by
  rcases mem_modify hy with hy | ⟨z, hz, rfl⟩
  · exact h y hy
  · exact h z hz
theorem Lst.setB {N : Nat} {s : MSt} (h : Lst N s) (k : Nat) (a : Int) : Lst N (s.setB k a) := fun y hy => by
  rcases mem_modify hy with hy | ⟨z, hz, rfl⟩
  · exact h y hy
  · exact h z hz
theorem Lst.ite {N : Nat} {c : Prop} [Decidable c] {a b : MSt} (ha : Lst N a) (hb : Lst N b) : Lst N (if c then a else b) := by split <;> assumption
theorem Lst.strict {N : Nat} {s : MSt} (h : Lst N s) (op n d : Int) {l : List Int} (hl : l.length ≤ N) : Lst N (strict op n d l s) := by
  have ht : l.tail.length ≤ N := by simp; omega
  unfold Mk.strict
  repeat' (refine Lst.ite ?_ ?_)
  all_goals first | exact h.put (Nat.zero_le _) | exact h.put ht | exact h.put hl | exact (h.put (Nat.zero_le _)).put (Nat.zero_le _) | exact h
theorem Lst.ended {N : Nat} {s : MSt} (h : Lst N s) (op n : Int) {l : List Int} (hl : l.length ≤ N) : Lst N (ended op n l s) := by
  have ht : l.tail.length ≤ N := by simp; omega
  unfold Mk.ended
  repeat' (refine Lst.ite ?_ ?_)
  all_goals first | exact h.put ht | exact h.put hl
theorem Lst.fix1 {N : Nat} : ∀ (v : List Int) (t : List Trm) {s : MSt}, Lst N s → Lst N (fix1 v t s)
  | [], t, s, h => by
    rw [Mk.fix1]
    · exact h
    · simp
  | v :: vs, [], s, h => by
    rw [Mk.fix1]
    · exact h
    · simp
  | v :: vs, x :: l, s, h => by
    rw [Mk.fix1]
    exact Lst.fix1 vs l (Lst.put (h.same rfl) (Nat.zero_le _))
theorem Lst.thens {N : Nat} {f g : Int → Bool → MSt → MSt} (hf : ∀ (d : Int) (e : Bool) (s : MSt), Lst N s → Lst N (f d e s)) (hg : ∀ (d : Int) (e : Bool) (s : MSt), Lst N s → Lst N (g d e s)) (c d : Int) (e : Bool) {s : MSt} (h : Lst N s) : Lst N (thens f g c d e s) := by
  have h2 : Lst N (f d e (s.put ⟨16, 0, c, 0, []⟩)) := hf _ _ _ (h.put (Nat.zero_le _))
  unfold Mk.thens
  dsimp only
  cases e with
  | true => exact hg _ _ _ (h2.setB _ _)
  | false => exact Lst.setA (hg _ _ _ (Lst.setB (h2.put (Nat.zero_le _)) _ _)) _ _
theorem Lst.had {N : Nat} {lk : List (Int × Int) → Int → Int} (x : Trm) (hx : ∀ (d : Int) (e : Bool) (s : MSt), Lst N s → Lst N (into lk x d e s)) {s : MSt} (h : Lst N s) : Lst N (hadW lk x.op x.n (into lk x) s).2 := by
  unfold hadW
  split
  · exact h
  · exact hx _ _ _ (h.same rfl)
theorem allT_short (lk : List (Int × Int) → Int → Int) (t : List Trm) (s : MSt) {N : Nat} (h : Trm.allL t ≤ N) : (allT lk t s).1.length ≤ N := by
  have h1 := allT_length lk t s
  have h2 := Trm.allL_length t
  omega
mutual
theorem Lst.into {N : Nat} {lk : List (Int × Int) → Int → Int} : ∀ (x : Trm) (d : Int) (e : Bool) (s : MSt), x.all ≤ N → Lst N s → Lst N (into lk x d e s)
  | .mk op n v t, d, e, s, hN, h => by
    have ht : Trm.allL t ≤ N := by rw [Trm.all] at hN; omega
    rw [Mk.into]
    split
    · exact Lst.choice t d e s ht h
    split
    · exact Lst.seqs t d e s ht h
    split
    · exact Lst.lets t v [] d e s ht h
    split
    · exact Lst.fixs t v d e _ ht (h.fix1 v t)
    split
    · split
      · exact Lst.ended (Lst.allT t s ht h) _ _ (allT_short lk t s ht)
      · split
        · exact h.put (Nat.zero_le _)
        · exact Lst.put (Lst.strict (Lst.allT t s.fresh ht (h.same rfl)) _ _ _ (allT_short lk t _ ht)) (Nat.zero_le _)
    · split
      · exact h.put (Nat.zero_le _)
      · exact Lst.strict (Lst.allT t s ht h) _ _ _ (allT_short lk t s ht)
theorem Lst.choice {N : Nat} {lk : List (Int × Int) → Int → Int} : ∀ (l : List Trm) (d : Int) (e : Bool) (s : MSt), Trm.allL l ≤ N → Lst N s → Lst N (choice lk l d e s)
  | [a, b, x], d, e, s, hN, h => by
    simp only [Trm.allL] at hN
    rw [Mk.choice]
    exact Lst.thens (fun d e s hs => Lst.into b d e s (by omega) hs) (fun d e s hs => Lst.into x d e s (by omega) hs) _ _ _ (Lst.had a (fun d e s hs => Lst.into a d e s (by omega) hs) h)
  | [], _, _, _, _, h => by rw [Mk.choice]; exact h; all_goals simp
  | [_], _, _, _, _, h => by rw [Mk.choice]; exact h; all_goals simp
  | [_, _], _, _, _, _, h => by rw [Mk.choice]; exact h; all_goals simp
  | _ :: _ :: _ :: _ :: _, _, _, _, _, h => by rw [Mk.choice]; exact h; all_goals simp
theorem Lst.allT {N : Nat} {lk : List (Int × Int) → Int → Int} : ∀ (l : List Trm) (s : MSt), Trm.allL l ≤ N → Lst N s → Lst N (allT lk l s).2
  | [], s, _, h => by rw [Mk.allT]; exact h
  | x :: l, s, hN, h => by
    rw [Trm.allL] at hN
    rw [Mk.allT]
    exact Lst.allT l _ (by omega) (Lst.had x (fun d e s hs => Lst.into x d e s (by omega) hs) h)
theorem Lst.seqs {N : Nat} {lk : List (Int × Int) → Int → Int} : ∀ (l : List Trm) (d : Int) (e : Bool) (s : MSt), Trm.allL l ≤ N → Lst N s → Lst N (seqs lk l d e s)
  | [], _, _, s, _, h => by rw [Mk.seqs]; exact h
  | [x], d, e, s, hN, h => by
    rw [Trm.allL] at hN
    rw [Mk.seqs]
    exact Lst.into x d e s (by omega) h
  | x :: y :: l, d, e, s, hN, h => by
    rw [Trm.allL] at hN
    rw [Mk.seqs]
    exact Lst.seqs (y :: l) d e _ (by omega) (Lst.had x (fun d e s hs => Lst.into x d e s (by omega) hs) h)
theorem Lst.lets {N : Nat} {lk : List (Int × Int) → Int → Int} : ∀ (l : List Trm) (v rs : List Int) (d : Int) (e : Bool) (s : MSt), Trm.allL l ≤ N → Lst N s → Lst N (lets lk l v rs d e s)
  | [], _, _, _, _, s, _, h => by rw [Mk.lets]; exact h
  | [x], v, rs, d, e, s, hN, h => by
    rw [Trm.allL] at hN
    rw [Mk.lets]
    exact Lst.into x d e _ (by omega) (h.same rfl)
  | x :: y :: l, v, rs, d, e, s, hN, h => by
    rw [Trm.allL] at hN
    rw [Mk.lets]
    exact Lst.lets (y :: l) v _ d e _ (by omega) (Lst.had x (fun d e s hs => Lst.into x d e s (by omega) hs) h)
theorem Lst.fixs {N : Nat} {lk : List (Int × Int) → Int → Int} : ∀ (l : List Trm) (v : List Int) (d : Int) (e : Bool) (s : MSt), Trm.allL l ≤ N → Lst N s → Lst N (fixs lk l v d e s)
  | [], _, _, _, s, _, h => by rw [Mk.fixs]; exact h
  | [x], v, d, e, s, hN, h => by
    rw [Trm.allL] at hN
    rw [Mk.fixs]
    exact Lst.into x d e s (by omega) h
  | .mk o m w t :: y :: l, v, d, e, s, hN, h => by
    rw [Trm.allL, Trm.all] at hN
    rw [Mk.fixs]
    exact Lst.fixs (y :: l) v.tail d e _ (by omega) (Lst.put (Lst.allT t s (by omega) h) (allT_short lk t s (by omega)))
end
/-- A code's procedure has short lists. -/
theorem proc_lists (lk : List (Int × Int) → Int → Int) (c : Cod) {N : Nat} (h : c.body.all ≤ N) : ∀ x ∈ (proc lk c).code, x.l.length ≤ N := by
  unfold proc
  exact Lst.into c.body 0 true _ h (fun x hx => by cases hx)
end Mk
end Go.Proofs.YtigkhmppnnljiaaGreatDoor

namespace Go.Proofs.YtigkhmppnnljiaaGreatDoor
open Go Go.RowKit Mdl

set_option maxHeartbeats 16000000 in
set_option maxRecDepth 100000 in
theorem flatEnds_walk (m : Mdl) (v : Value) (w : World) (hv : MdlR w w.heap.size m v) :
    Calls Tryz.prog 7 #[v] w fun e w' => e = .returned (.bool true) ∧ Below w.heap.size w w' := by
  obtain ⟨B, hBe⟩ : ∃ B, w.heap.size = B := ⟨_, rfl⟩
  rw [hBe] at hv
  have hB : B ≤ w.heap.size := by omega
  have HV := Lib.hid hv
  obtain ⟨cc, pp, b0, b1, b2, b3, rfl, hcon, hcod, hbody⟩ := hv
  obtain ⟨oc, lc, kc, rfl⟩ : ∃ o l c, cc = .slice o l c := by obtain ⟨o, l, c, h, _⟩ := hcon; exact ⟨o, l, c, h⟩
  obtain ⟨op, lp, kp, rfl⟩ := hcod.form
  obtain ⟨q, r', u, q', r'', u', rfl, rfl, rfl, rfl⟩ := trm_form hbody
  have HCOD := Lib.hid hcod
  have HLP := Lib.hid hcod.lens.1
  clear hcon hcod hbody hBe
  obtain ⟨W1, hW1⟩ : ∃ W1, w.alloc (.cells #[.slice oc lc kc, .slice op lp kp, .int .i64 m.body.op, .int .i64 m.body.n, .slice q r' u, .slice q' r'' u'] 43) = W1 := ⟨_, rfl⟩
  have HB1 := Lib.hid (show Below w.heap.size w W1 from by rw [← hW1]; exact Below.one w _)
  have HX1 := Lib.hid (show BoxL W1 w.heap.size 43 [.slice oc lc kc, .slice op lp kp, .int .i64 m.body.op, .int .i64 m.body.n, .slice q r' u, .slice q' r'' u'] from by rw [← hW1]; exact BoxL.new rfl _ _)
  have HW1 := Lib.hid hW1
  have HA := Lib.hid (awake14_any W1)
  clear hW1
  go_enter Tryz.func7, Tryz.ntmps7
  go_upto_region 1 with fail
  rw [HW1.out]
  go_wp2_with fail
  with_reducible refine HA.out.mono ?_
  rintro e w2 ⟨rfl, hb2⟩
  have HB2 := Lib.hid (HB1.out.trans (hb2.mono HB1.out.size))
  have HX2 := Lib.hid (HX1.out.keep hb2)
  clear hb2 HA HW1
  have u0 := HX2.out.cell 0 rfl
  have u1 := HX2.out.cell 1 rfl
  have u2 := HX2.out.cell 2 rfl
  have u3 := HX2.out.cell 3 rfl
  have u4 := HX2.out.cell 4 rfl
  have u5 := HX2.out.cell 5 rfl
  have ul := HX2.out.lt
  obtain ⟨fw, hfw⟩ : ∃ fw, m.fewB 250 = fw := ⟨_, rfl⟩
  have HF := Lib.hid (few14_any m _ 250 B w2 (HV.out.kept (HB2.out.mono hB)) (by have := HB2.out.size; omega) (by omega) (by omega) fw hfw)
  go_wp2_with fail
  with_reducible refine HF.out.mono ?_
  rintro e w3 ⟨rfl, hb3⟩
  have HB3 := Lib.hid (HB2.out.trans (hb3.mono HB2.out.size))
  have HX3 := Lib.hid (HX2.out.keep hb3)
  clear hb3 HF u0 u1 u2 u3 u4 u5 ul
  cases fw with
  | false =>
    go_wp2_with fail
    go_ret
    exact ⟨rfl, HB3.out⟩
  | true =>
    have HK := Lib.hid (fmake_to m _ B w3 (HV.out.kept (HB3.out.mono hB)) (by have := HB3.out.size; omega) 250 (by omega) hfw)
    have HFW := Lib.hid hfw
    clear hfw
    have u0 := HX3.out.cell 0 rfl
    have u1 := HX3.out.cell 1 rfl
    have u2 := HX3.out.cell 2 rfl
    have u3 := HX3.out.cell 3 rfl
    have u4 := HX3.out.cell 4 rfl
    have u5 := HX3.out.cell 5 rfl
    have ul := HX3.out.lt
    go_wp2_with fail
    with_reducible refine HK.out.mono ?_
    rintro e w4 ⟨cv, pv, rfl, hu, hb4⟩
    have HB4 := Lib.hid (HB3.out.trans (hb4.mono HB3.out.size))
    have HX4 := Lib.hid (HX3.out.keep hb4)
    obtain ⟨cv', pv', he, hcv, hpv⟩ := hu
    simp only [Value.agg.injEq, Array.mk.injEq, List.cons.injEq, and_true] at he
    obtain ⟨rfl, rfl⟩ := he
    obtain ⟨o0, l0, c0, rfl, hx0⟩ := hcv
    clear hx0
    obtain ⟨o1, np, c1, rfl⟩ := hpv.form
    have HPV := Lib.hid hpv
    have HNP := Lib.hid hpv.lens.1
    obtain ⟨W5, hW5⟩ : ∃ W5, w4.alloc (.cells #[.slice o0 l0 c0, .slice o1 np c1] 25) = W5 := ⟨_, rfl⟩
    have HB45 := Lib.hid (show Below w4.heap.size w4 W5 from by rw [← hW5]; exact Below.one w4 _)
    have HU5 := Lib.hid (show BoxL W5 w4.heap.size 25 [.slice o0 l0 c0, .slice o1 np c1] from by rw [← hW5]; exact BoxL.new rfl _ _)
    have HX5 := Lib.hid (HX4.out.keep HB45.out)
    have HB5 := Lib.hid (HB4.out.trans (HB45.out.mono HB4.out.size))
    have HW5 := Lib.hid hW5
    clear hb4 HK u0 u1 u2 u3 u4 u5 ul hW5 hpv
    obtain ⟨E, hE⟩ : ∃ E, m.makeErr Mk.lkL = E := ⟨_, rfl⟩
    rw [hE]
    go_upto_region 5 with fail
    rw [HW5.out]
    cases hok : (m.okB && (m.unit Mk.lkL).okB) with
    | false =>
      obtain rfl : (5 : Int) = E := by rw [← hE, Mdl.makeErr, hok]; rfl
      clear hE hok
      go_wp2_with fail
      go_ret
      exact ⟨rfl, HB5.out⟩
    | true =>
      obtain rfl : (0 : Int) = E := by rw [← hE, Mdl.makeErr, hok]; rfl
      have hmu : m.makeU Mk.lkL = m.unit Mk.lkL := by rw [Mdl.makeU, hok]; rfl
      rw [hmu] at HPV HNP
      rw [Bool.and_eq_true] at hok
      have HSH := Lib.hid (unit_shape hok.1 hok.2)
      have hnl : np = lp + 1 := by rw [HNP.out, HSH.out.1, HLP.out]
      have HNL := Lib.hid hnl
      have hlp50 : lp ≤ 50 := by have := (Mdl.few_facts HFW.out).1; have := HLP.out; omega
      have hnp51 : np ≤ 51 := by omega
      have hlpn : lp < np := by omega
      have hc1 : np ≤ c1 ∧ c1 ≤ 9223372036854775807 := HPV.out.lens.2
      have hkp : lp ≤ kp ∧ kp ≤ 9223372036854775807 := HCOD.out.lens.2
      clear hE hmu hnl
      have v1 := HU5.out.cell 1 rfl
      have vl := HU5.out.lt
      go_wp2_with fail
      go_loopg [6] np (fun g i wr => ∃ j : Nat, g = np - j ∧ j ≤ np ∧ i = .int .i64 j ∧ Hid (Below W5.heap.size W5 wr))
      case atStart => exact ⟨0, rfl, by omega, rfl, Lib.hid (Below.refl _ _)⟩
      case round =>
        obtain ⟨j, rfl, hj, rfl, HR⟩ := hrel
        obtain ⟨w6, rfl⟩ : ∃ w6 : World, w6 = wr := ⟨_, rfl⟩
        clear v1 vl
        have HUR := Lib.hid (HU5.out.keep HR.out)
        have HBR := Lib.hid (HB5.out.trans (HR.out.mono HB5.out.size))
        have HB4R := Lib.hid (show Below w4.heap.size w4 w6 from HB45.out.trans (HR.out.mono HB45.out.size))
        have v1 := HUR.out.cell 1 rfl
        have vl := HUR.out.lt
        by_cases hjl : j < np
        · obtain ⟨p, hx⟩ : ∃ p, (m.unit Mk.lkL).procs[j]? = some p := ⟨_, List.getElem?_eq_getElem (by rw [HSH.out.1]; have := HLP.out; have := HNL.out; omega)⟩
          obtain ⟨c, hcj, hargs, hrest, halv, hfr, hne, hr0, hr1, hcl5⟩ := HSH.out.2 j p hx
          obtain ⟨hari, hins5⟩ := unit_ins hok.2 (List.mem_of_getElem? hx)
          have hlst : ∀ x ∈ p.code, x.l.length ≤ 1000000 := fun x hxx => by
            have hp : p = Mk.proc Mk.lkL c := by
              rw [unit_cods, List.getElem?_map, hcj] at hx
              exact (Option.some.inj hx).symm
            have hall : c.body.all ≤ 1000000 := by
              have hff := Mdl.few_facts HFW.out
              rcases List.mem_append.1 (List.mem_of_getElem? hcj) with h | h
              · have := hff.2.2.2.2.1 c h
                omega
              · rw [List.mem_singleton.1 h]
                have := hff.2.2.2.1
                dsimp only
                omega
            rw [hp] at hxx
            exact Mk.proc_lists _ c hall x hxx
          obtain ⟨b1', off1, cs, ho1, hbB', hcl', hcell', hpr'⟩ := HPV.out.at HB4R.out hx
          subst ho1
          obtain ⟨sl', al', rfl, _, _, hsl, hal⟩ := hpr'
          obtain ⟨osl, mc, csl, rfl⟩ := hsl.form
          obtain ⟨oal, lal, cal, rfl⟩ := hal.form
          have e0 := hcell' 0 _ rfl
          have e1 := hcell' 1 _ rfl
          have e2 := hcell' 2 _ rfl
          have e3 := hcell' 3 _ rfl
          have e4 := hcell' 4 _ rfl
          simp only [Nat.add_zero] at e0
          obtain ⟨R, hRR⟩ : ∃ R : Nat, p.regs = R := ⟨p.regs.toNat, by omega⟩
          obtain ⟨A, hAA⟩ : ∃ A : Nat, p.args = A := ⟨c.v.length, hargs⟩
          rw [hRR] at e2 hari hr1
          rw [hAA] at e0 hari hargs
          have HGS := Lib.hid (show argsG c = fun r => 0 ≤ r ∧ r < (A : Int) from by funext r; unfold argsG; rw [← hargs])
          have HIN := Lib.hid (show ∀ x ∈ p.code, (0 ≤ x.op ∧ x.op ≤ 22) ∧ ∀ r ∈ Unt.named x, 0 ≤ r ∧ r < (R : Int) from by rw [← hRR]; exact hins5)
          have HLST := Lib.hid hlst
          have hAR : A ≤ R := by omega
          have hR2 : R ≤ 20000 := by omega
          obtain ⟨W7, hW7⟩ : ∃ W7, w6.alloc (.cells #[.int .i64 A, .bool p.rest, .int .i64 R, .slice osl mc csl, .slice oal lal cal] 31) = W7 := ⟨_, rfl⟩
          have HW7 := Lib.hid hW7
          have HR7 := Lib.hid (show Below w6.heap.size w6 W7 from by rw [← hW7]; exact Below.one w6 _)
          have HP7 := Lib.hid (show BoxL W7 w6.heap.size 31 [.int .i64 A, .bool p.rest, .int .i64 R, .slice osl mc csl, .slice oal lal cal] from by rw [← hW7]; exact BoxL.new rfl _ _)
          have HB7 := Lib.hid (HBR.out.trans (HR7.out.mono HBR.out.size))
          have HMC := Lib.hid hsl.lens.1
          have HMS := Lib.hid hsl
          have HLIN := Lib.hid hfr.lin
          have HLST2 := Lib.hid hfr.last
          have gC : ((mc : Int) == 0) = false := by
            have h1 : mc ≠ 0 := fun h => hne (List.eq_nil_of_length_eq_zero (by rw [← HMC.out, h]))
            rw [beq_eq_false_iff_ne]; omega
          have hmc0 : 0 < mc := by
            have h1 : mc ≠ 0 := fun h => hne (List.eq_nil_of_length_eq_zero (by rw [← HMC.out, h]))
            omega
          have hmc : mc ≤ 50000 := by rw [HMC.out]; exact hcl5
          have hmk : mc ≤ csl ∧ csl ≤ 9223372036854775807 := hsl.lens.2
          clear hW7 hx hcj hcell' hcl' hsl hal hfr hne halv hargs hrest hr0 hr1 hcl5 hins5 hlst hRR hAA hari
          go_upto_region 11 with fail
          rw [HW7.out]
          clear e0 e1 e2 e3 e4 v1 vl HW7
          have y0 := HP7.out.cell 0 rfl
          have y2 := HP7.out.cell 2 rfl
          have y3 := HP7.out.cell 3 rfl
          have yl := HP7.out.lt
          have gR0 : decide ((R : Int) < 0) = false := decide_eq_false (by omega)
          have gR1 : decide ((20000 : Int) < (R : Int)) = false := decide_eq_false (by omega)
          have hmk2 := run_make_row' (P := Tryz.prog) 52 4 (.bool false) 1 Tryz.underlying52 info_bool rfl .i64 .i64 R (by omega) (by omega)
          have HG0 := Lib.hid ((World.rowIs_made W7 (.bool false) R 4).congr (g := fun i => .bool (decide (i < 0))) (fun i _ => by simp))
          have HZ0 := Lib.hid (show Below W7.heap.size W7 (W7.alloc (.cells (madeCells #[.bool false] R) 4)) from Below.one W7 _)
          go_wp2_with fail
          go_loopg [9] A (fun g i wx => ∃ r : Nat, g = A - r ∧ r ≤ A ∧ i = .int .i64 r ∧ Hid (wx.rowIs W7.heap.size 4 R (fun i => .bool (decide (i < r)))) ∧ Hid (Below W7.heap.size W7 wx))
          case atStart => exact ⟨0, rfl, by omega, rfl, HG0, HZ0⟩
          case round =>
            obtain ⟨r, rfl, hr, rfl, HG, HZ⟩ := hrel
            clear HG0 HZ0 y0 y2 y3 yl gC gR0 gR1 hmk2
            have HPK := Lib.hid (HP7.out.keep HZ.out)
            have y0 := HPK.out.cell 0 rfl
            have y2 := HPK.out.cell 2 rfl
            have y3 := HPK.out.cell 3 rfl
            have yl := HPK.out.lt
            by_cases hrl : r < A
            · have hrR : r < R := by omega
              have m0 := HG.out.cell hrR
              have mz := HG.out.frozen r
              have ml := HG.out.lt
              have HG2 := Lib.hid ((HG.out.set r (.bool true)).congr (g := fun i => .bool (decide (i < r + 1))) (fun i _ => by
                by_cases h : i = r
                · subst h; simp
                · rw [if_neg h]
                  have : decide (i < r) = decide (i < r + 1) := by rw [decide_eq_decide]; omega
                  rw [this]))
              have HZ2 := Lib.hid (HZ.out.setCell (p := ⟨W7.heap.size, r, none⟩) (by dsimp only; omega) (.bool true))
              have gr1 : decide ((r : Int) < (R : Int)) = true := decide_eq_true (by omega)
              go_wp2_with fail
              go_roundg (A - (r + 1))
              case measure => omega
              case rel => exact ⟨r + 1, rfl, by omega, by go_num, HG2, HZ2⟩
            · obtain rfl : r = A := by omega
              have HL0 := Lib.hid (show ∃ (G : Int → Prop) (giv : Nat → Bool), Mk.Lin G (p.code.drop 0) ∧ (∀ q : Int, 0 ≤ q → q < (R : Int) → G q → giv q.toNat = true) ∧ wr.rowIs W7.heap.size 4 R (fun i => .bool (giv i)) from
                ⟨_, fun i => decide (i < r), HLIN.out, fun q h0 h1 hq => by
                  rw [HGS.out] at hq
                  exact decide_eq_true (by omega), HG.out⟩)
              obtain ⟨wo, hwo⟩ : ∃ wo, wo = wr := ⟨_, rfl⟩
              have HWO := Lib.hid (show Below W7.heap.size W7 wo from by rw [hwo]; exact HZ.out)
              have HWO2 := Lib.hid (show Below W7.heap.size W7 wr from HZ.out)
              clear hwo
              go_wp2_with fail
              go_loopg [10] mc (fun g i wx => ∃ k : Nat, g = mc - k ∧ k ≤ mc ∧ i = .int .i64 k ∧ Hid (∃ (G : Int → Prop) (giv : Nat → Bool), Mk.Lin G (p.code.drop k) ∧ (∀ q : Int, 0 ≤ q → q < (R : Int) → G q → giv q.toNat = true) ∧ wx.rowIs W7.heap.size 4 R (fun i => .bool (giv i))) ∧ Hid (Below W7.heap.size W7 wx))
              case atStart => exact ⟨0, rfl, by omega, rfl, HL0, HWO2⟩
              case round =>
                obtain ⟨k, rfl, hk, rfl, HL, HK⟩ := hrel
                clear HL0 HWO2 y0 y2 y3 yl
                have HPK2 := Lib.hid (HP7.out.keep HK.out)
                have y2 := HPK2.out.cell 2 rfl
                have y3 := HPK2.out.cell 3 rfl
                have yl := HPK2.out.lt
                have HB7K := Lib.hid (HB7.out.trans (HK.out.mono HB7.out.size))
                have HB4K := Lib.hid (show Below w4.heap.size w4 wr from (HB4R.out.trans (HR7.out.mono HB4R.out.size)).trans (HK.out.mono (Nat.le_trans HB4R.out.size HR7.out.size)))
                by_cases hkl : k < mc
                · obtain ⟨x, hx⟩ : ∃ x, p.code[k]? = some x := ⟨_, List.getElem?_eq_getElem (by rw [← HMC.out]; exact hkl)⟩
                  obtain ⟨G, giv, hlin, hgv, hrow⟩ := HL.out
                  have hdr : p.code.drop k = x :: p.code.drop (k + 1) := by
                    obtain ⟨h1, h2⟩ := List.getElem?_eq_some_iff.1 hx
                    rw [List.drop_eq_getElem_cons h1, h2]
                  rw [hdr] at hlin
                  have HNM := Lib.hid (show ∀ q ∈ Unt.named x, 0 ≤ q ∧ q < (R : Int) ∧ giv q.toNat = true from fun q hq => by
                    have h := (HIN.out x (List.mem_of_getElem? hx)).2 q hq
                    exact ⟨h.1, h.2, hgv q h.1 h.2 (hlin.1 q hq)⟩)
                  have HLN := Lib.hid hlin.2
                  have HGV := Lib.hid hgv
                  have HRW := Lib.hid hrow
                  obtain ⟨b2', off2, ds, ho2, hb2B, hdl, hdcell, hins⟩ := HMS.out.at HB4K.out hx
                  subst ho2
                  obtain ⟨hop0, hop1⟩ := (HIN.out x (List.mem_of_getElem? hx)).1
                  have hxl := HLST.out x (List.mem_of_getElem? hx)
                  have hinr := hins
                  obtain ⟨sl2, rfl, _, _, _, _, hsl2⟩ := hins
                  obtain ⟨o4, l4, c4, rfl⟩ := hsl2.form
                  have e0 := hdcell 0 _ rfl
                  have e1 := hdcell 1 _ rfl
                  have e2 := hdcell 2 _ rfl
                  have e3 := hdcell 3 _ rfl
                  have e4 := hdcell 4 _ rfl
                  simp only [Nat.add_zero] at e0
                  have HNC := Lib.hid (named_any x _ _ _ _ _ w4.heap.size wr (InsR.kept hinr HB4K.out) HB4K.out.size hxl hop0 hop1)
                  obtain ⟨xop, xd, xa, xb, xlst⟩ := x
                  obtain ⟨NM, hNM⟩ : ∃ NM, Unt.named ⟨xop, xd, xa, xb, xlst⟩ = NM := ⟨_, rfl⟩
                  obtain ⟨GV, hGV⟩ : ∃ GV, Unt.gives ⟨xop, xd, xa, xb, xlst⟩ = GV := ⟨_, rfl⟩
                  unfold NamedPost at HNC
                  rw [hNM, hGV] at HNC
                  rw [hNM] at HNM
                  rw [hGV] at HLN
                  clear hx hdcell hdl hsl2 hlin hgv hrow hinr hdr hxl hop0 hop1 hNM hGV
                  go_wp2_with fail
                  with_reducible refine HNC.out.mono ?_
                  rintro e w8 ⟨nsl, rfl, hnsl, hb8⟩
                  obtain ⟨on, ln, cn, rfl⟩ := hnsl.form
                  have HNS := Lib.hid hnsl
                  have HLNN := Lib.hid hnsl.lens.1
                  have hlnn := hnsl.lens.2
                  have HB8 := Lib.hid (HK.out.trans (hb8.mono HK.out.size))
                  have HRW8 := Lib.hid (keepR hb8 HRW.out)
                  have HP8 := Lib.hid (HPK2.out.keep hb8)
                  have hgb : W7.heap.size < w8.heap.size := Nat.lt_of_lt_of_le HRW.out.lt hb8.size
                  clear hb8 hnsl HNC e0 e1 e2 e3 e4 y2 y3 yl
                  have HC8 := Lib.hid (Below.refl w8.heap.size w8)
                  go_wp2_with fail
                  go_loopg [13] ln (fun g i wy => ∃ t : Nat, g = ln - t ∧ t ≤ ln ∧ i = .int .i64 t ∧ Hid (Below w8.heap.size w8 wy))
                  case atStart => exact ⟨0, rfl, by omega, rfl, HC8⟩
                  case round =>
                    obtain ⟨t, rfl, ht, rfl, HY⟩ := hrel
                    clear HC8
                    have HPY := Lib.hid (HP8.out.keep HY.out)
                    have HRY := Lib.hid (keepR HY.out HRW8.out)
                    by_cases htl : t < ln
                    · obtain ⟨rg, hrg⟩ : ∃ rg, NM[t]? = some rg := ⟨_, List.getElem?_eq_getElem (by rw [← HLNN.out]; exact htl)⟩
                      obtain ⟨q0, q1, q2⟩ := HNM.out rg (List.mem_of_getElem? hrg)
                      obtain ⟨nb, noff, hno, hnb, hnc, hni⟩ := SlC.int (HNS.out.kept HY.out fun _ _ _ h => h) hrg
                      subst hno
                      obtain ⟨rn, rfl⟩ : ∃ rn : Nat, rg = (rn : Int) := ⟨rg.toNat, by omega⟩
                      simp only [Int.toNat_natCast] at q2
                      have hrn : rn < R := by omega
                      have hcl := HRY.out.cell hrn
                      simp only [q2] at hcl
                      have hcll := cell_lt hcl
                      have hncl := cell_lt hnc
                      have g1 : decide ((rn : Int) < 0) = false := decide_eq_false (by omega)
                      have g2 : decide ((R : Int) ≤ (rn : Int)) = false := decide_eq_false (by omega)
                      have g3 : decide (R ≤ rn) = false := decide_eq_false (by omega)
                      have HD := Lib.hid ((Below.refl wr.heap.size wr).drew)
                      have y2l := HPY.out.lt
                      clear hrg q0 q1 q2 hni
                      go_upto_region 25 with fail
                      refine wp_region_quiet_all (Below wr.heap.size wr) (by kernel_rfl) (by kernel_rfl) HD.out ?_
                      intro T0 _ WW HWW HWW2
                      have x1 : ∀ t', (WW t').cell? _ = _ := fun t' => ((HWW t').cell (p := ⟨_, _, none⟩) hncl).trans hnc
                      have x2 : ∀ t', (WW t').cell? _ = _ := fun t' => ((HWW t').cell (p := ⟨W7.heap.size, rn, none⟩) hcll).trans hcl
                      have x3 : ∀ t', (WW t').cell? _ = _ := fun t' => ((HWW t').cell (p := ⟨w6.heap.size, 2, none⟩) y2l).trans (HPY.out.cell 2 rfl)
                      have HWH := Lib.hid HWW
                      clear HWW HWW2 hnc hcl
                      repeat (go_big_quiet_step (fail))
                      refine wpQuiet_nil ?_
                      intro t'
                      have HT := Lib.hid (HY.out.trans ((HWH.out t').mono HY.out.size))
                      clear x1 x2 x3 HWH
                      go_wp2_with fail
                      go_roundg (ln - (t + 1))
                      case measure => omega
                      case rel => exact ⟨t + 1, rfl, by omega, by go_num, HT⟩
                    · have y2 := HPY.out.cell 2 rfl
                      have yl := HPY.out.lt
                      have HBY := Lib.hid (HB8.out.trans (HY.out.mono HB8.out.size))
                      by_cases hgi : 0 ≤ GV ∧ GV < (R : Int)
                      · obtain ⟨gn, rfl⟩ : ∃ gn : Nat, GV = (gn : Int) := ⟨GV.toNat, by omega⟩
                        have hgn : gn < R := by omega
                        have m0 := HRY.out.cell hgn
                        have mz := HRY.out.frozen gn
                        have ml := HRY.out.lt
                        have g1 : decide ((0 : Int) ≤ (gn : Int)) = true := decide_eq_true (by omega)
                        have g2 : decide ((gn : Int) < (R : Int)) = true := decide_eq_true (by omega)
                        have HN2 := Lib.hid (show ∃ (G' : Int → Prop) (giv' : Nat → Bool), Mk.Lin G' (p.code.drop (k + 1)) ∧ (∀ q : Int, 0 ≤ q → q < (R : Int) → G' q → giv' q.toNat = true) ∧ (wr.setCell ⟨W7.heap.size, gn, none⟩ (.bool true)).rowIs W7.heap.size 4 R (fun i => .bool (giv' i)) from
                          ⟨_, fun i => if i = gn then true else giv i, HLN.out, fun q h0 h1 hq => by
                            rcases hq with hq | rfl
                            · have := HGV.out q h0 h1 hq
                              simp only [this]
                              split <;> rfl
                            · simp, (HRY.out.set gn (.bool true)).congr (fun i _ => by by_cases h : i = gn <;> simp [h])⟩)
                        have HZ2 := Lib.hid (HBY.out.setCell (p := ⟨W7.heap.size, gn, none⟩) (by dsimp only; omega) (.bool true))
                        clear hgi
                        go_wp2_with fail
                        go_roundg (mc - (k + 1))
                        case measure => omega
                        case rel => exact ⟨k + 1, rfl, by omega, by go_num, HN2, HZ2⟩
                      · have HN2 := Lib.hid (show ∃ (G' : Int → Prop) (giv' : Nat → Bool), Mk.Lin G' (p.code.drop (k + 1)) ∧ (∀ q : Int, 0 ≤ q → q < (R : Int) → G' q → giv' q.toNat = true) ∧ wr.rowIs W7.heap.size 4 R (fun i => .bool (giv' i)) from
                          ⟨_, giv, HLN.out, fun q h0 h1 hq => by
                            rcases hq with hq | rfl
                            · exact HGV.out q h0 h1 hq
                            · exact absurd ⟨h0, h1⟩ hgi, HRY.out⟩)
                        by_cases hg0 : 0 ≤ GV
                        · have g1 : decide ((0 : Int) ≤ GV) = true := decide_eq_true hg0
                          have g2 : decide (GV < (R : Int)) = false := decide_eq_false (fun h => hgi ⟨hg0, h⟩)
                          clear hgi hg0
                          go_wp2_with fail
                          go_roundg (mc - (k + 1))
                          case measure => omega
                          case rel => exact ⟨k + 1, rfl, by omega, by go_num, HN2, HBY⟩
                        · have g1 : decide ((0 : Int) ≤ GV) = false := decide_eq_false hg0
                          clear hgi hg0
                          go_wp2_with fail
                          go_roundg (mc - (k + 1))
                          case measure => omega
                          case rel => exact ⟨k + 1, rfl, by omega, by go_num, HN2, HBY⟩
                · obtain ⟨l, z, hlz, hz1, hz2⟩ := HLST2.out
                  have hlast : p.code[mc - 1]? = some z := by
                    rw [HMC.out, hlz]
                    simp
                  obtain ⟨b2', off2, ds, ho2, hb2B, hdl, hdcell, hins⟩ := HMS.out.at HB4K.out hlast
                  subst ho2
                  obtain ⟨sl2, rfl, _, _, _, _, hsl2⟩ := hins
                  have e0 := hdcell 0 _ rfl
                  simp only [Nat.add_zero] at e0
                  obtain ⟨M1, rfl⟩ : ∃ M1, mc = M1 + 1 := ⟨mc - 1, by omega⟩
                  rw [Nat.add_sub_cancel] at e0
                  have HRX := Lib.hid (show Below W5.heap.size W5 wr from (HR.out.trans (HR7.out.mono HR.out.size)).trans (HK.out.mono (Nat.le_trans HR.out.size HR7.out.size)))
                  have g1 : decide (z.op < 19) = false := decide_eq_false (by omega)
                  have g2 : decide ((22 : Int) < z.op) = false := decide_eq_false (by omega)
                  obtain ⟨zop, hzop⟩ : ∃ zop, z.op = zop := ⟨_, rfl⟩
                  rw [hzop] at e0 g1 g2
                  clear hlast hdcell hdl hsl2 hlz hz1 hz2 hzop
                  go_wp2_with fail
                  go_roundg (np - (j + 1))
                  case measure => omega
                  case rel => exact ⟨j + 1, rfl, by omega, by go_num, HRX⟩
        · go_wp2_with fail
          go_ret
          exact ⟨rfl, HBR.out⟩
end Go.Proofs.YtigkhmppnnljiaaGreatDoor

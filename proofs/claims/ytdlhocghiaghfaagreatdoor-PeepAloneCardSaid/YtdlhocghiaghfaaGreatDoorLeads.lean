/-
  peep.leads.
-/
import Derived.Test.YtdlhocghiaghfaaGreatDoorMapB
import Derived.Test.YtdlhocghiaghfaaGreatDoorPeepLaw
import Derived.Deep.LoopGhost
namespace Go.Proofs.YtdlhocghiaghfaaGreatDoor
open Go.RowKit Go.Maps

theorem nodup_le : ∀ (n : Nat) (l : List Nat), l.Nodup → (∀ x ∈ l, x < n) → l.length ≤ n
  | 0, [], _, _ => Nat.le_refl _
  | 0, x :: _, _, h => by have := h x (by simp); omega
  | n + 1, l, hd, h => by
    have h1 := nodup_le n (l.erase n) (hd.erase n) (fun x hx => by
      have h2 := h x (List.mem_of_mem_erase hx)
      have h3 : x ≠ n := fun e => by subst e; exact (List.Nodup.mem_erase_iff hd).1 hx |>.1 rfl
      omega)
    have h4 := List.length_erase_le (a := n) (l := l)
    have h5 : l.length - 1 ≤ (l.erase n).length := by
      rw [List.length_erase]; split <;> omega
    omega

theorem keyed_int : Keyed Tryz.prog 3 := int_keyed Tryz.underlying3
theorem zero_bool (w : World) : (zeroValue 4).run Tryz.prog w = .ok (.bool false) w := by kernel_rfl
/-- The map's entries are the places met, each with true. -/
def MetD (D : DataW Unit) (met : List Nat) : Prop := IsMap D ∧ ∀ (x : Nat), D.atKey (.int .i64 x) (.lit (.bool false)) = .lit (.bool (decide (x ∈ met)))
theorem MetD.nil : MetD (.map []) [] := ⟨isMap_empty, fun x => by simp [DataW.atKey]⟩
theorem isKey_int (x : Nat) : WideAt.IsKeyLit (.int .i64 (x : Int)) := by simp [WideAt.IsKeyLit]
theorem MetD.put {D : DataW Unit} {met : List Nat} (h : MetD D met) (x : Nat) : MetD (D.put (.int .i64 x) (.lit (.bool true))) (x :: met) := by
  refine ⟨h.1.put _ _, fun y => ?_⟩
  by_cases hy : y = x
  · subst hy
    rw [atKey_put_same h.1 (isKey_int y)]; simp
  · rw [atKey_put_other (by intro e; simp only [Lit.int.injEq, true_and] at e; omega), h.2 y]; simp [hy]
/-- What the loop keeps. -/
def LeadsI (code : List Ins) (w : World) (mb p0 g p : Nat) (wr : World) : Prop :=
  ∃ (met : List Nat) (D : DataW Unit), Peep.leads code g met p = Peep.leads code code.length [p0] p0 ∧ met.length + g = code.length + 1 ∧ met.Nodup ∧ (∀ m ∈ met, m < code.length) ∧ MetD D met ∧
    wr.ownsMap Tryz.prog 3 (plainElem Tryz.prog 4) mb met.length D ∧ Below w.heap.size w wr ∧ w.heap.size ≤ mb

set_option maxHeartbeats 2000000 in
set_option maxRecDepth 100000 in
theorem leads_any (code : List Ins) (o : Option Addr) (len cap : Nat) (p : Nat) (B : Nat) (w : World) (hv : SlC w B 5 (InsR w B) code (.slice o len cap)) (hB : B ≤ w.heap.size) (ht : ∀ x ∈ code, x.op = 15 → 0 ≤ x.a ∧ x.a < (code.length : Int)) (hp : p < code.length) (hm : code.length ≤ 100000) :
    Calls Tryz.prog 78 #[.slice o len cap, .int .i64 p] w fun e w' => e = .returned (.int .i64 (Peep.leads code code.length [p] p : Nat)) ∧ Below w.heap.size w w' := by
  obtain ⟨hlen, hcap, hmax⟩ := hv.lens
  have HL := Lib.hid hlen
  have HV := Lib.hid hv
  have HT := Lib.hid ht
  have hm' : len ≤ 100000 := by omega
  have hp' : p < len := by omega
  have hmm := @run_makeMap Tryz.prog
  have HO := Lib.hid (World.ownsMap_made (H := Unit) w Tryz.prog 3 (plainElem Tryz.prog 4))
  obtain ⟨n0, hn0⟩ : ∃ n0, code.length = n0 := ⟨_, rfl⟩
  have HN0 := Lib.hid hn0
  have hl0 : len = n0 := by omega
  have HL0 := Lib.hid hl0
  clear hlen hv ht hn0 hl0 hm hp
  go_enter Tryz.func78, Tryz.ntmps78
  go_wp2_with (refine wpList_insert_own _ rfl _ _ _ 134 rfl 3 4 keyed_int Tryz.underlying134 _ w.heap.size 0 _ rfl HO.out (by unfold maxLen; omega) _ _ (.int .i64 p) rfl rfl (keyOf_int_mk Tryz.underlying3 (WalkArith.wf_i64 (by omega))) _ [] (plainElem_bool Tryz.underlying4 true) ?_)
  intro w1 hown hgrow
  have hI : LeadsI code w w.heap.size p len p w1 := by
    refine ⟨[p], _, by rw [← HL.out], by simp [← HL.out]; omega, by simp, by simp; rw [← HL.out]; exact hp', MetD.nil.put p, hown, ?_, Nat.le_refl _⟩
    exact (Below.one w _).trans ((Below.refl _ _).grown hgrow (by simp) (fun g hg => by cases hg; exact Nat.le_refl _))
  have HI := Lib.hid hI
  clear hI hown hgrow
  go_wp2_with fail
  go_loopg [1] len (fun g t wr => ∃ q : Nat, t = .int .i64 q ∧ q < len ∧ Hid (LeadsI code w w.heap.size p g q wr))
  case atStart => exact ⟨p, rfl, hp', HI⟩
  case round =>
    obtain ⟨q, rfl, hq, HI⟩ := hrel
    obtain ⟨met, D, hld, hml, hnd, hlt, hD, hown, hb, _⟩ := HI.out
    obtain ⟨x, hx⟩ : ∃ x, code[q]? = some x := ⟨_, List.getElem?_eq_getElem (by rw [← HL.out]; exact hq)⟩
    obtain ⟨b1, off1, cs, ho1, hbB, hcl, hcell, hins⟩ := HV.out.at (hb.mono hB) hx
    subst ho1
    have HX := Lib.hid hx
    obtain ⟨k, d, a, b, l⟩ := x
    obtain ⟨sl, rfl, hbk, _, hba, _, _⟩ := hins
    have e0 := hcell 0 _ rfl
    have e2 := hcell 2 _ rfl
    rw [Nat.add_zero] at e0
    have hbl := cell_lt e0
    dsimp only at e0 e2 hbk hba
    have HO := Lib.hid hown
    have HB := Lib.hid hb
    have HD := Lib.hid hD
    have HLD := Lib.hid hld
    have HML := Lib.hid hml
    have HND := Lib.hid hnd
    have HLT := Lib.hid hlt
    clear hx hcell hcl hown hb hD hld hml hnd hlt
    by_cases k15 : k = 15
    · subst k15
      obtain ⟨ha0, ha1⟩ := HT.out _ (List.mem_of_getElem? HX.out) rfl
      obtain ⟨A, rfl⟩ : ∃ A : Nat, a = A := ⟨a.toNat, by dsimp only at ha0; omega⟩
      have hAl : A < len := by rw [HL.out]; dsimp only at ha1; omega
      obtain ⟨c, hc⟩ : ∃ c, decide (A ∈ met) = c := ⟨_, rfl⟩
      obtain ⟨v, ps, hrun, hv⟩ := HO.out.lookup keyed_int Tryz.underlying134 (zero_bool wr) (plainElem_bool Tryz.underlying4 false) (keyOf_int_mk Tryz.underlying3 (WalkArith.wf_i64 (n := (A : Int)) (by omega)))
      obtain ⟨c', rfl, hc'⟩ := plainElem_bool_inv Tryz.underlying4 hv
      rw [HD.out.2 A, hc] at hc'
      obtain rfl : c = c' := by have h1 : c = c' ∧ ps = [] := by simpa using hc'
                                exact h1.1
      have HC := Lib.hid hc
      clear hc hc' hv ha0 ha1
      cases c with
      | true =>
        have HE := Lib.hid (show Peep.leads code gk met q = q from by
          cases gk with
          | zero => rfl
          | succ g' => rw [Peep.leads, HX.out]; simp [of_decide_eq_true HC.out])
        go_wp2_with fail
        go_ret
        exact ⟨by rw [HN0.out, ← HE.out, HLD.out, HN0.out]; rfl, HB.out⟩
      | false =>
        have hg0 : 0 < gk := by
          have h1 := nodup_le code.length (A :: met) (List.nodup_cons.2 ⟨of_decide_eq_false HC.out, HND.out⟩) (by
            intro m hm
            rcases List.mem_cons.1 hm with rfl | h
            · rw [← HL.out]; exact hAl
            · exact HLT.out m h)
          have h2 := HML.out
          simp at h1
          omega
        obtain ⟨g', rfl⟩ : ∃ g', gk = g' + 1 := ⟨gk - 1, by omega⟩
        have hmet : met.length ≤ 100000 := by have := HML.out; have := HL.out; omega
        go_wp2_with (at_mapUpdate; refine wpList_mapUpdate_own _ rfl _ _ _ 134 rfl 3 4 keyed_int Tryz.underlying134 _ w.heap.size met.length D rfl HO.out (by unfold maxLen; omega) _ _ (.int .i64 A) rfl rfl (keyOf_int_mk Tryz.underlying3 (WalkArith.wf_i64 (by omega))) _ [] (plainElem_bool Tryz.underlying4 true) ?_)
        intro w2 hown2 hgrow2
        have HI2 := Lib.hid (show LeadsI code w w.heap.size p g' A w2 from by
          refine ⟨A :: met, _, ?_, by have := HML.out; simp; omega, List.nodup_cons.2 ⟨of_decide_eq_false HC.out, HND.out⟩, ?_, HD.out.put A, hown2, HB.out.grown hgrow2 HB.out.size (fun g hg => by cases hg; exact Nat.le_refl _), Nat.le_refl _⟩
          · have h1 := HLD.out
            rw [Peep.leads, HX.out] at h1
            simpa [of_decide_eq_false HC.out] using h1
          · intro m hm
            rcases List.mem_cons.1 hm with rfl | h
            · rw [← HL.out]; exact hAl
            · exact HLT.out m h)
        clear hown2 hgrow2 hrun
        go_wp2_with fail
        go_roundg g'
        case measure => omega
        case rel => exact ⟨A, rfl, hAl, HI2⟩
    · have k15' : (k == 15) = false := by simpa using k15
      have HE := Lib.hid (show Peep.leads code gk met q = q from by
        cases gk with
        | zero => rfl
        | succ g' => rw [Peep.leads, HX.out]; simp [k15])
      go_wp2_with fail
      go_ret
      exact ⟨by rw [HN0.out, ← HE.out, HLD.out, HN0.out]; rfl, HB.out⟩
end Go.Proofs.YtdlhocghiaghfaaGreatDoor

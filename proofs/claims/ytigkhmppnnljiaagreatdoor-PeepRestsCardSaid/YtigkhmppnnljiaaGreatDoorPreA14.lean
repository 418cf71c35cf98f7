/-
  What the proofs lean on: Leads, CloneI, RNamed.
-/
import Derived.Deep.LoopGhost
import Derived.WalkSpells
import Derived.Test.YtigkhmppnnljiaaGreatDoorPreA03
import Derived.Test.YtigkhmppnnljiaaGreatDoorPreA13
set_option maxRecDepth 100000
set_option maxHeartbeats 16000000
namespace Go.Proofs.YtigkhmppnnljiaaGreatDoor
section
open Go.RowKit Go.Maps
theorem nodup_le : ∀ (n : Nat) (l : List Nat), l.Nodup → (∀ x ∈ l, x < n) → l.length ≤ n
 | 0, [], _, _ => Nat.le_refl _
 | 0, x :: _, _, h => by have := h x (by simp); omega
 | n + 1, l, hd, h => by
  have h1 := nodup_le n (l.erase n) (hd.erase n) (fun x hx => by
   have h2 := h x (List.mem_of_mem_erase hx)
   have h3 : x ≠ n := fun e => by subst e; exact (List.Nodup.mem_erase_iff hd).1 hx |>.1 rfl
   omega)
  have h4 := List.length_erase_le (a := n) (l := l)
  have h5 : l.length - 1 ≤ (l.erase n).length := by
   rw [List.length_erase]; split <;> omega
  omega
theorem keyed_int : Keyed Tryz.prog 3 := int_keyed Tryz.underlying3
theorem zero_bool (w : World) : (zeroValue 4).run Tryz.prog w = .ok (.bool false) w := by kernel_rfl
def MetD (D : DataW Unit) (met : List Nat) : Prop := IsMap D ∧ ∀ (x : Nat), D.atKey (.int .i64 x) (.lit (.bool false)) = .lit (.bool (decide (x ∈ met)))
theorem MetD.nil : MetD (.map []) [] := ⟨isMap_empty, fun x => by simp [DataW.atKey]⟩
theorem isKey_int (x : Nat) : WideAt.IsKeyLit (.int .i64 (x : Int)) := by simp [WideAt.IsKeyLit]
theorem MetD.put {D : DataW Unit} {met : List Nat} (h : MetD D met) (x : Nat) : MetD (D.put (.int .i64 x) (.lit (.bool true))) (x :: met) := by
 refine ⟨h.1.put _ _, fun y => ?_⟩
 by_cases hy : y = x
 ·subst hy
  rw [atKey_put_same h.1 (isKey_int y)]; simp
 ·rw [atKey_put_other (by intro e; simp only [Lit.int.injEq, true_and] at e; omega), h.2 y]; simp [hy]
def LeadsI (code : List Ins) (w : World) (mb p0 g p : Nat) (wr : World) : Prop :=
 ∃ (met : List Nat) (D : DataW Unit), Peep.leads code g met p = Peep.leads code code.length [p0] p0 ∧ met.length + g = code.length + 1 ∧ met.Nodup ∧ (∀ m ∈ met, m < code.length) ∧ MetD D met ∧
  wr.ownsMap Tryz.prog 3 (plainElem Tryz.prog 4) mb met.length D ∧ Below w.heap.size w wr ∧ w.heap.size ≤ mb
theorem leads_any (code : List Ins) (o : Option Addr) (len cap : Nat) (p : Nat) (B : Nat) (w : World) (hv : SlC w B 5 (InsR w B) code (.slice o len cap)) (hB : B ≤ w.heap.size) (ht : ∀ x ∈ code, x.op = 15 → 0 ≤ x.a ∧ x.a < (code.length : Int)) (hp : p < code.length) (hm : code.length ≤ 100000) :
    Calls Tryz.prog 87 #[.slice o len cap, .int .i64 p] w fun e w' => e = .returned (.int .i64 (Peep.leads code code.length [p] p : Nat)) ∧ Below w.heap.size w w' := by
  obtain ⟨hlen, hcap, hmax⟩ := hv.lens
  have HL := Lib.hid hlen
  have HV := Lib.hid hv
  have HT := Lib.hid ht
  have hm' : len ≤ 100000 := by omega
  have hp' : p < len := by omega
  have hmm := @run_makeMap Tryz.prog
  have HO := Lib.hid (World.ownsMap_made (H := Unit) w Tryz.prog 3 (plainElem Tryz.prog 4))
  obtain ⟨n0, hn0⟩ : ∃ n0, code.length = n0 := ⟨_, rfl⟩
  have HN0 := Lib.hid hn0
  have hl0 : len = n0 := by omega
  have HL0 := Lib.hid hl0
  clear hlen hv ht hn0 hl0 hm hp
  go_enter Tryz.func87, Tryz.ntmps87
  go_wp2_with (refine wpList_insert_own _ rfl _ _ _ 101 rfl 3 4 keyed_int Tryz.underlying101 _ w.heap.size 0 _ rfl HO.out (by unfold maxLen; omega) _ _ (.int .i64 p) rfl rfl (keyOf_int_mk Tryz.underlying3 (WalkArith.wf_i64 (by omega))) _ [] (plainElem_bool Tryz.underlying4 true) ?_)
  intro w1 hown hgrow
  have hI : LeadsI code w w.heap.size p len p w1 := by
    refine ⟨[p], _, by rw [← HL.out], by simp [← HL.out]; omega, by simp, by simp; rw [← HL.out]; exact hp', MetD.nil.put p, hown, ?_, Nat.le_refl _⟩
    exact (Below.one w _).trans ((Below.refl _ _).grown hgrow (by simp) (fun g hg => by cases hg; exact Nat.le_refl _))
  have HI := Lib.hid hI
  clear hI hown hgrow
  go_wp2_with fail
  go_loopg [1] len (fun g t wr => ∃ q : Nat, t = .int .i64 q ∧ q < len ∧ Hid (LeadsI code w w.heap.size p g q wr))
  case atStart => exact ⟨p, rfl, hp', HI⟩
  case round =>
    obtain ⟨q, rfl, hq, HI⟩ := hrel
    obtain ⟨met, D, hld, hml, hnd, hlt, hD, hown, hb, _⟩ := HI.out
    obtain ⟨x, hx⟩ : ∃ x, code[q]? = some x := ⟨_, List.getElem?_eq_getElem (by rw [← HL.out]; exact hq)⟩
    obtain ⟨b1, off1, cs, ho1, hbB, hcl, hcell, hins⟩ := HV.out.at (hb.mono hB) hx
    subst ho1
    have HX := Lib.hid hx
    obtain ⟨k, d, a, b, l⟩ := x
    obtain ⟨sl, rfl, hbk, _, hba, _, _⟩ := hins
    have e0 := hcell 0 _ rfl
    have e2 := hcell 2 _ rfl
    rw [Nat.add_zero] at e0
    have hbl := cell_lt e0
    dsimp only at e0 e2 hbk hba
    have HO := Lib.hid hown
    have HB := Lib.hid hb
    have HD := Lib.hid hD
    have HLD := Lib.hid hld
    have HML := Lib.hid hml
    have HND := Lib.hid hnd
    have HLT := Lib.hid hlt
    clear hx hcell hcl hown hb hD hld hml hnd hlt
    by_cases k15 : k = 15
    · subst k15
      obtain ⟨ha0, ha1⟩ := HT.out _ (List.mem_of_getElem? HX.out) rfl
      obtain ⟨A, rfl⟩ : ∃ A : Nat, a = A := ⟨a.toNat, by dsimp only at ha0; omega⟩
      have hAl : A < len := by rw [HL.out]; dsimp only at ha1; omega
      obtain ⟨c, hc⟩ : ∃ c, decide (A ∈ met) = c := ⟨_, rfl⟩
      obtain ⟨v, ps, hrun, hv⟩ := HO.out.lookup keyed_int Tryz.underlying101 (zero_bool wr) (plainElem_bool Tryz.underlying4 false) (keyOf_int_mk Tryz.underlying3 (WalkArith.wf_i64 (n := (A : Int)) (by omega)))
      obtain ⟨c', rfl, hc'⟩ := plainElem_bool_inv Tryz.underlying4 hv
      rw [HD.out.2 A, hc] at hc'
      obtain rfl : c = c' := by have h1 : c = c' ∧ ps = [] := by simpa using hc'
                                exact h1.1
      have HC := Lib.hid hc
      clear hc hc' hv ha0 ha1
      cases c with
      | true =>
        have HE := Lib.hid (show Peep.leads code gk met q = q from by
          cases gk with
          | zero => rfl
          | succ g' => rw [Peep.leads, HX.out]; simp [of_decide_eq_true HC.out])
        go_wp2_with fail
        go_ret
        exact ⟨by rw [HN0.out, ← HE.out, HLD.out, HN0.out]; rfl, HB.out⟩
      | false =>
        have hg0 : 0 < gk := by
          have h1 := nodup_le code.length (A :: met) (List.nodup_cons.2 ⟨of_decide_eq_false HC.out, HND.out⟩) (by
            intro m hm
            rcases List.mem_cons.1 hm with rfl | h
            · rw [← HL.out]; exact hAl
            · exact HLT.out m h)
          have h2 := HML.out
          simp at h1
          omega
        obtain ⟨g', rfl⟩ : ∃ g', gk = g' + 1 := ⟨gk - 1, by omega⟩
        have hmet : met.length ≤ 100000 := by have := HML.out; have := HL.out; omega
        go_wp2_with (at_mapUpdate; refine wpList_mapUpdate_own _ rfl _ _ _ 101 rfl 3 4 keyed_int Tryz.underlying101 _ w.heap.size met.length D rfl HO.out (by unfold maxLen; omega) _ _ (.int .i64 A) rfl rfl (keyOf_int_mk Tryz.underlying3 (WalkArith.wf_i64 (by omega))) _ [] (plainElem_bool Tryz.underlying4 true) ?_)
        intro w2 hown2 hgrow2
        have HI2 := Lib.hid (show LeadsI code w w.heap.size p g' A w2 from by
          refine ⟨A :: met, _, ?_, by have := HML.out; simp; omega, List.nodup_cons.2 ⟨of_decide_eq_false HC.out, HND.out⟩, ?_, HD.out.put A, hown2, HB.out.grown hgrow2 HB.out.size (fun g hg => by cases hg; exact Nat.le_refl _), Nat.le_refl _⟩
          · have h1 := HLD.out
            rw [Peep.leads, HX.out] at h1
            simpa [of_decide_eq_false HC.out] using h1
          · intro m hm
            rcases List.mem_cons.1 hm with rfl | h
            · rw [← HL.out]; exact hAl
            · exact HLT.out m h)
        clear hown2 hgrow2 hrun
        go_wp2_with fail
        go_roundg g'
        case measure => omega
        case rel => exact ⟨A, rfl, hAl, HI2⟩
    · have k15' : (k == 15) = false := by simpa using k15
      have HE := Lib.hid (show Peep.leads code gk met q = q from by
        cases gk with
        | zero => rfl
        | succ g' => rw [Peep.leads, HX.out]; simp [k15])
      go_wp2_with fail
      go_ret
      exact ⟨by rw [HN0.out, ← HE.out, HLD.out, HN0.out]; rfl, HB.out⟩
end
section
open Go.RowKit
theorem cloneI_any (l : List Int) (v : Value) (B : Nat) (w : World) (hv : SlC w B 1 IntR l v) (hB : B ≤ w.heap.size) (hm : l.length ≤ 1000000) :
  Calls Tryz.prog 84 #[v] w fun e w' => ∃ v', e = .returned v' ∧ w'.ownsRow w.heap.size 3 1 v' l.length (l.map (Value.int .i64)) ∧ (∃ o len cap, v' = .slice o len cap) ∧ Below w.heap.size w w' := by
 obtain ⟨o, len, cap, rfl⟩ := hv.form
 have HV := Lib.hid hv
 obtain ⟨hlen, _, hmax⟩ := hv.lens
 have HL := Lib.hid hlen
 have hm' : len ≤ 1000000 := by omega
 clear hlen
 cases o with
 | none =>
  obtain ⟨o', l', c', he, h1, h2, _, h4⟩ := hv
  simp only [Value.slice.injEq] at he
  obtain ⟨rfl, rfl, rfl⟩ := he
  obtain ⟨rfl, rfl⟩ := h4
  simp at h1
  subst h1
  clear HV HL h2
  have he := fun (w : World) => Lib.run_eql_slice_nil (P := Tryz.prog) w 32 3 none 0 0 0 0 Tryz.underlying32
  go_enter Tryz.func84, Tryz.ntmps84
  go_wp2_with fail
  go_ret
  exact ⟨_, rfl, World.ownsRow_nil _ _ _ _, ⟨_, _, _, rfl⟩, Below.refl _ _⟩
 | some a =>
  have he := fun (w : World) => Lib.run_eql_slice_nil (P := Tryz.prog) w 32 3 (some a) len cap 0 0 Tryz.underlying32
  have HS := Lib.hid (show SlC (w.alloc (.cells [].toArray 3)) B 1 IntR l (.slice (some a) len cap) from HV.out.kept ((Below.one w _).mono hB) fun _ _ _ h => h)
  have HO := Lib.hid (ownsRow_new (W := w) (b := w.heap.size) (base := w.heap.size) rfl (Nat.le_refl _) 3 1 0 [] rfl (by unfold maxLen; omega))
  clear hv
  go_enter Tryz.func84, Tryz.ntmps84
  go_wp2_with (at_builtin; refine wpList_append_ints rfl (.tmp 5) (.tmp 6) rfl w.heap.size B (.slice (some ⟨w.heap.size, 0, none⟩) 0 0) [] l rfl HO.out (some a) len cap rfl HS.out (by simp; omega) (by simp) ?_)
  intro v' w2 hown hgrow
  have HR := Lib.hid (show w2.ownsRow w.heap.size 3 1 v' l.length (l.map (Value.int .i64)) from hown)
  obtain ⟨o', l', c', rfl⟩ : ∃ o' l' c', v' = .slice o' l' c' := by
   rcases hown.2 with ⟨h, _⟩ | ⟨g, cap, cur, h, _⟩
   ·exact ⟨_, _, _, h⟩
   ·exact ⟨_, _, _, h⟩
  have HB := Lib.hid (show Below w.heap.size w w2 from (Below.one w _).grown hgrow (by simp) (fun g hg => by simp [Value.ownBlock] at hg; omega))
  clear hown hgrow
  go_wp2_with fail
  go_ret
  exact ⟨_, rfl, HR.out, ⟨_, _, _, rfl⟩, HB.out⟩
end
section
open Go.RowKit
def NamedPost (x : Ins) (w : World) (e : Ending) (w' : World) : Prop := ∃ sl, e = .returned (.tuple #[sl, .int .i64 (Unt.gives x)]) ∧ SlC w' w'.heap.size 1 IntR (Unt.named x) sl ∧ Below w.heap.size w w'
theorem intsNew {W : World} {b B : Nat} (hb : b = W.heap.size) (hB : b < B) (t : TypeId) (l : List Int) (hl : ∀ x ∈ l, I64 x) (n : Nat) (hn : n = l.length) (hm : n ≤ 1000000) : SlC (W.alloc (.cells (l.map (Value.int .i64)).toArray t)) B 1 IntR l (.slice (some ⟨b, 0, none⟩) n n) := by
 subst hb
 refine ⟨_, n, n, rfl, hn, Nat.le_refl _, by omega, fun _ => ⟨rfl, hB⟩, fun i x hx => ⟨[.int .i64 x], rfl, fun j u hj => ?_, rfl, hl x (List.mem_of_getElem? hx)⟩⟩
 match j, hj with
 | 0, hj =>
  simp only [List.getElem?_cons_zero, Option.some.injEq] at hj
  subst hj
  have h1 : (l.map (Value.int .i64)).toArray[i]? = some (.int .i64 x) := by simp [hx]
  simpa using box_cell W _ t i h1
theorem named_0 (d a b : Int) (l : List Int) (o : Option Addr) (len cap : Nat) (B : Nat) (w : World) (ha : I64 a) (hb : I64 b) (hv : SlC w B 1 IntR l (.slice o len cap)) (_hB : B ≤ w.heap.size) (hmx : l.length ≤ 1000000) :
  Calls Tryz.prog 19 #[.agg #[.int .i64 0, .int .i64 d, .int .i64 a, .int .i64 b, .slice o len cap]] w (NamedPost ⟨0, d, a, b, l⟩ w) := by
 have HG : Unt.gives ⟨0, d, a, b, l⟩ = d := by simp [Unt.gives]
 have HN : Unt.named ⟨0, d, a, b, l⟩ = [] := by simp [Unt.named]
 unfold NamedPost
 rw [HG, HN]
 have HV := Lib.hid hv
 have HA := Lib.hid ha
 have HB := Lib.hid hb
 obtain ⟨hlen, hcap, hmax⟩ := hv.lens
 have HL := Lib.hid hlen
 have hmx' : len ≤ 1000000 := by omega
 clear HG HN hv ha hb hlen
 go_enter Tryz.func19, Tryz.ntmps19
 go_wp2_with fail
 go_ret2
 exact ⟨_, rfl, ⟨none, 0, 0, rfl, rfl, by omega, by omega, rfl, rfl⟩, Below.one _ _⟩
theorem named_1 (d a b : Int) (l : List Int) (o : Option Addr) (len cap : Nat) (B : Nat) (w : World) (ha : I64 a) (hb : I64 b) (hv : SlC w B 1 IntR l (.slice o len cap)) (_hB : B ≤ w.heap.size) (hmx : l.length ≤ 1000000) :
  Calls Tryz.prog 19 #[.agg #[.int .i64 1, .int .i64 d, .int .i64 a, .int .i64 b, .slice o len cap]] w (NamedPost ⟨1, d, a, b, l⟩ w) := by
 have HG : Unt.gives ⟨1, d, a, b, l⟩ = d := by simp [Unt.gives]
 have HN : Unt.named ⟨1, d, a, b, l⟩ = [a] := by simp [Unt.named]
 unfold NamedPost
 rw [HG, HN]
 have HV := Lib.hid hv
 have HA := Lib.hid ha
 have HB := Lib.hid hb
 obtain ⟨hlen, hcap, hmax⟩ := hv.lens
 have HL := Lib.hid hlen
 have hmx' : len ≤ 1000000 := by omega
 clear HG HN hv ha hb hlen
 go_enter Tryz.func19, Tryz.ntmps19
 go_wp2_with fail
 go_ret2
 exact ⟨_, rfl, intsNew (B := ((w.alloc (.cells #[.int .i64 1, .int .i64 d, .int .i64 a, .int .i64 b, .slice o len cap] 34)).alloc (.cells #[.int .i64 a] 3)).heap.size) (by simp) (by simp) 3 [a] (by simp [HA.out]) 1 rfl (by omega), (Below.one _ _).trans ((Below.one _ _).mono (by simp))⟩
theorem named_2 (d a b : Int) (l : List Int) (o : Option Addr) (len cap : Nat) (B : Nat) (w : World) (ha : I64 a) (hb : I64 b) (hv : SlC w B 1 IntR l (.slice o len cap)) (_hB : B ≤ w.heap.size) (hmx : l.length ≤ 1000000) :
  Calls Tryz.prog 19 #[.agg #[.int .i64 2, .int .i64 d, .int .i64 a, .int .i64 b, .slice o len cap]] w (NamedPost ⟨2, d, a, b, l⟩ w) := by
 have HG : Unt.gives ⟨2, d, a, b, l⟩ = d := by simp [Unt.gives]
 have HN : Unt.named ⟨2, d, a, b, l⟩ = [] := by simp [Unt.named]
 unfold NamedPost
 rw [HG, HN]
 have HV := Lib.hid hv
 have HA := Lib.hid ha
 have HB := Lib.hid hb
 obtain ⟨hlen, hcap, hmax⟩ := hv.lens
 have HL := Lib.hid hlen
 have hmx' : len ≤ 1000000 := by omega
 clear HG HN hv ha hb hlen
 go_enter Tryz.func19, Tryz.ntmps19
 go_wp2_with fail
 go_ret2
 exact ⟨_, rfl, ⟨none, 0, 0, rfl, rfl, by omega, by omega, rfl, rfl⟩, Below.one _ _⟩
theorem named_3 (d a b : Int) (l : List Int) (o : Option Addr) (len cap : Nat) (B : Nat) (w : World) (ha : I64 a) (hb : I64 b) (hv : SlC w B 1 IntR l (.slice o len cap)) (_hB : B ≤ w.heap.size) (hmx : l.length ≤ 1000000) :
  Calls Tryz.prog 19 #[.agg #[.int .i64 3, .int .i64 d, .int .i64 a, .int .i64 b, .slice o len cap]] w (NamedPost ⟨3, d, a, b, l⟩ w) := by
 have HG : Unt.gives ⟨3, d, a, b, l⟩ = d := by simp [Unt.gives]
 have HN : Unt.named ⟨3, d, a, b, l⟩ = [] := by simp [Unt.named]
 unfold NamedPost
 rw [HG, HN]
 have HV := Lib.hid hv
 have HA := Lib.hid ha
 have HB := Lib.hid hb
 obtain ⟨hlen, hcap, hmax⟩ := hv.lens
 have HL := Lib.hid hlen
 have hmx' : len ≤ 1000000 := by omega
 clear HG HN hv ha hb hlen
 go_enter Tryz.func19, Tryz.ntmps19
 go_wp2_with fail
 go_ret2
 exact ⟨_, rfl, ⟨none, 0, 0, rfl, rfl, by omega, by omega, rfl, rfl⟩, Below.one _ _⟩
theorem named_4 (d a b : Int) (l : List Int) (o : Option Addr) (len cap : Nat) (B : Nat) (w : World) (ha : I64 a) (hb : I64 b) (hv : SlC w B 1 IntR l (.slice o len cap)) (_hB : B ≤ w.heap.size) (hmx : l.length ≤ 1000000) :
  Calls Tryz.prog 19 #[.agg #[.int .i64 4, .int .i64 d, .int .i64 a, .int .i64 b, .slice o len cap]] w (NamedPost ⟨4, d, a, b, l⟩ w) := by
 have HG : Unt.gives ⟨4, d, a, b, l⟩ = d := by simp [Unt.gives]
 have HN : Unt.named ⟨4, d, a, b, l⟩ = [] := by simp [Unt.named]
 unfold NamedPost
 rw [HG, HN]
 have HV := Lib.hid hv
 have HA := Lib.hid ha
 have HB := Lib.hid hb
 obtain ⟨hlen, hcap, hmax⟩ := hv.lens
 have HL := Lib.hid hlen
 have hmx' : len ≤ 1000000 := by omega
 clear HG HN hv ha hb hlen
 go_enter Tryz.func19, Tryz.ntmps19
 go_wp2_with fail
 go_ret2
 exact ⟨_, rfl, ⟨none, 0, 0, rfl, rfl, by omega, by omega, rfl, rfl⟩, Below.one _ _⟩
theorem named_5 (d a b : Int) (l : List Int) (o : Option Addr) (len cap : Nat) (B : Nat) (w : World) (ha : I64 a) (hb : I64 b) (hv : SlC w B 1 IntR l (.slice o len cap)) (_hB : B ≤ w.heap.size) (hmx : l.length ≤ 1000000) :
  Calls Tryz.prog 19 #[.agg #[.int .i64 5, .int .i64 d, .int .i64 a, .int .i64 b, .slice o len cap]] w (NamedPost ⟨5, d, a, b, l⟩ w) := by
 have HG : Unt.gives ⟨5, d, a, b, l⟩ = d := by simp [Unt.gives]
 have HN : Unt.named ⟨5, d, a, b, l⟩ = [] := by simp [Unt.named]
 unfold NamedPost
 rw [HG, HN]
 have HV := Lib.hid hv
 have HA := Lib.hid ha
 have HB := Lib.hid hb
 obtain ⟨hlen, hcap, hmax⟩ := hv.lens
 have HL := Lib.hid hlen
 have hmx' : len ≤ 1000000 := by omega
 clear HG HN hv ha hb hlen
 go_enter Tryz.func19, Tryz.ntmps19
 go_wp2_with fail
 go_ret2
 exact ⟨_, rfl, ⟨none, 0, 0, rfl, rfl, by omega, by omega, rfl, rfl⟩, Below.one _ _⟩
theorem named_6 (d a b : Int) (l : List Int) (o : Option Addr) (len cap : Nat) (B : Nat) (w : World) (ha : I64 a) (hb : I64 b) (hv : SlC w B 1 IntR l (.slice o len cap)) (_hB : B ≤ w.heap.size) (hmx : l.length ≤ 1000000) :
  Calls Tryz.prog 19 #[.agg #[.int .i64 6, .int .i64 d, .int .i64 a, .int .i64 b, .slice o len cap]] w (NamedPost ⟨6, d, a, b, l⟩ w) := by
 have HG : Unt.gives ⟨6, d, a, b, l⟩ = d := by simp [Unt.gives]
 have HN : Unt.named ⟨6, d, a, b, l⟩ = [] := by simp [Unt.named]
 unfold NamedPost
 rw [HG, HN]
 have HV := Lib.hid hv
 have HA := Lib.hid ha
 have HB := Lib.hid hb
 obtain ⟨hlen, hcap, hmax⟩ := hv.lens
 have HL := Lib.hid hlen
 have hmx' : len ≤ 1000000 := by omega
 clear HG HN hv ha hb hlen
 go_enter Tryz.func19, Tryz.ntmps19
 go_wp2_with fail
 go_ret2
 exact ⟨_, rfl, ⟨none, 0, 0, rfl, rfl, by omega, by omega, rfl, rfl⟩, Below.one _ _⟩
theorem named_7 (d a b : Int) (l : List Int) (o : Option Addr) (len cap : Nat) (B : Nat) (w : World) (ha : I64 a) (hb : I64 b) (hv : SlC w B 1 IntR l (.slice o len cap)) (hB : B ≤ w.heap.size) (hmx : l.length ≤ 1000000) :
  Calls Tryz.prog 19 #[.agg #[.int .i64 7, .int .i64 d, .int .i64 a, .int .i64 b, .slice o len cap]] w (NamedPost ⟨7, d, a, b, l⟩ w) := by
 have HG : Unt.gives ⟨7, d, a, b, l⟩ = d := by simp [Unt.gives]
 have HN : Unt.named ⟨7, d, a, b, l⟩ = l := by simp [Unt.named]
 unfold NamedPost
 rw [HG, HN]
 have HV := Lib.hid hv
 have HA := Lib.hid ha
 have HB := Lib.hid hb
 obtain ⟨hlen, hcap, hmax⟩ := hv.lens
 have HL := Lib.hid hlen
 have hmx' : len ≤ 1000000 := by omega
 clear HG HN hv ha hb hlen
 go_enter Tryz.func19, Tryz.ntmps19
 go_wp2_with fail
 go_ret2
 exact ⟨_, rfl, (HV.out.kept ((Below.one w _).mono hB) fun _ _ _ h => h).wider (by simp; omega), Below.one _ _⟩
theorem named_8 (d a b : Int) (l : List Int) (o : Option Addr) (len cap : Nat) (B : Nat) (w : World) (ha : I64 a) (hb : I64 b) (hv : SlC w B 1 IntR l (.slice o len cap)) (hB : B ≤ w.heap.size) (hmx : l.length ≤ 1000000) :
  Calls Tryz.prog 19 #[.agg #[.int .i64 8, .int .i64 d, .int .i64 a, .int .i64 b, .slice o len cap]] w (NamedPost ⟨8, d, a, b, l⟩ w) := by
 have HG : Unt.gives ⟨8, d, a, b, l⟩ = -1 := by simp [Unt.gives]
 have HN : Unt.named ⟨8, d, a, b, l⟩ = a :: l := by simp [Unt.named]
 unfold NamedPost
 rw [HG, HN]
 have HV := Lib.hid hv
 have HA := Lib.hid ha
 have HB := Lib.hid hb
 obtain ⟨hlen, hcap, hmax⟩ := hv.lens
 have HL := Lib.hid hlen
 have hmx' : len ≤ 1000000 := by omega
 clear HG HN hv ha hb hlen
 go_enter Tryz.func19, Tryz.ntmps19
 have HO := Lib.hid (ownsRow_new (W := (w.alloc (.cells #[.int .i64 8, .int .i64 d, .int .i64 a, .int .i64 b, .slice o len cap] 34))) (b := w.heap.size + 1) (base := w.heap.size) (by simp) (by omega) 3 1 1 [.int .i64 a] rfl (by unfold maxLen; omega))
 have HS := Lib.hid (show SlC ((w.alloc (.cells #[.int .i64 8, .int .i64 d, .int .i64 a, .int .i64 b, .slice o len cap] 34)).alloc (.cells [.int .i64 a].toArray 3)) B 1 IntR l (.slice o len cap) from HV.out.kept (((Below.one w _).trans ((Below.one _ _).mono (by simp))).mono hB) fun _ _ _ h => h)
 go_wp2_with (at_builtin; refine wpList_append_ints rfl (.tmp 36) (.tmp 38) rfl w.heap.size B (.slice (some ⟨w.heap.size + 1, 0, none⟩) 1 1) [a] l rfl HO.out o len cap rfl HS.out (by have := HL.out; simp; omega) (by simp; omega) ?_)
 intro v' w2 hown hgrow
 have HR := Lib.hid hown
 have HBE := Lib.hid (show Below w.heap.size w w2 from ((Below.one w _).trans ((Below.one _ _).mono (by simp))).grown hgrow (by simp; omega) (fun g hg => by simp [Value.ownBlock] at hg; omega))
 have bx : BoxL w2 w.heap.size 34 [.int .i64 8, .int .i64 d, .int .i64 a, .int .i64 b, .slice o len cap] := (hgrow.block _ (by simp; omega) (by simp [Value.ownBlock])).trans ((BoxL.new rfl _ _).alloc _)
 have x0 := bx.cell 0 rfl
 have x1 := bx.cell 1 rfl
 clear hown hgrow bx
 go_wp2_with fail
 go_ret2
 exact ⟨_, rfl, rowInts (l := [a] ++ l) HR.out (by intro x hx; rcases List.mem_cons.1 hx with rfl | h; exact HA.out; exact HV.out.i64 x h), HBE.out⟩
theorem named_9 (d a b : Int) (l : List Int) (o : Option Addr) (len cap : Nat) (B : Nat) (w : World) (ha : I64 a) (hb : I64 b) (hv : SlC w B 1 IntR l (.slice o len cap)) (hB : B ≤ w.heap.size) (hmx : l.length ≤ 1000000) :
  Calls Tryz.prog 19 #[.agg #[.int .i64 9, .int .i64 d, .int .i64 a, .int .i64 b, .slice o len cap]] w (NamedPost ⟨9, d, a, b, l⟩ w) := by
 have HG : Unt.gives ⟨9, d, a, b, l⟩ = d := by simp [Unt.gives]
 have HN : Unt.named ⟨9, d, a, b, l⟩ = l := by simp [Unt.named]
 unfold NamedPost
 rw [HG, HN]
 have HV := Lib.hid hv
 have HA := Lib.hid ha
 have HB := Lib.hid hb
 obtain ⟨hlen, hcap, hmax⟩ := hv.lens
 have HL := Lib.hid hlen
 have hmx' : len ≤ 1000000 := by omega
 clear HG HN hv ha hb hlen
 go_enter Tryz.func19, Tryz.ntmps19
 go_wp2_with fail
 go_ret2
 exact ⟨_, rfl, (HV.out.kept ((Below.one w _).mono hB) fun _ _ _ h => h).wider (by simp; omega), Below.one _ _⟩
theorem named_10 (d a b : Int) (l : List Int) (o : Option Addr) (len cap : Nat) (B : Nat) (w : World) (ha : I64 a) (hb : I64 b) (hv : SlC w B 1 IntR l (.slice o len cap)) (_hB : B ≤ w.heap.size) (hmx : l.length ≤ 1000000) :
  Calls Tryz.prog 19 #[.agg #[.int .i64 10, .int .i64 d, .int .i64 a, .int .i64 b, .slice o len cap]] w (NamedPost ⟨10, d, a, b, l⟩ w) := by
 have HG : Unt.gives ⟨10, d, a, b, l⟩ = d := by simp [Unt.gives]
 have HN : Unt.named ⟨10, d, a, b, l⟩ = [a] := by simp [Unt.named]
 unfold NamedPost
 rw [HG, HN]
 have HV := Lib.hid hv
 have HA := Lib.hid ha
 have HB := Lib.hid hb
 obtain ⟨hlen, hcap, hmax⟩ := hv.lens
 have HL := Lib.hid hlen
 have hmx' : len ≤ 1000000 := by omega
 clear HG HN hv ha hb hlen
 go_enter Tryz.func19, Tryz.ntmps19
 go_wp2_with fail
 go_ret2
 exact ⟨_, rfl, intsNew (B := ((w.alloc (.cells #[.int .i64 10, .int .i64 d, .int .i64 a, .int .i64 b, .slice o len cap] 34)).alloc (.cells #[.int .i64 a] 3)).heap.size) (by simp) (by simp) 3 [a] (by simp [HA.out]) 1 rfl (by omega), (Below.one _ _).trans ((Below.one _ _).mono (by simp))⟩
theorem named_11 (d a b : Int) (l : List Int) (o : Option Addr) (len cap : Nat) (B : Nat) (w : World) (ha : I64 a) (hb : I64 b) (hv : SlC w B 1 IntR l (.slice o len cap)) (_hB : B ≤ w.heap.size) (hmx : l.length ≤ 1000000) :
  Calls Tryz.prog 19 #[.agg #[.int .i64 11, .int .i64 d, .int .i64 a, .int .i64 b, .slice o len cap]] w (NamedPost ⟨11, d, a, b, l⟩ w) := by
 have HG : Unt.gives ⟨11, d, a, b, l⟩ = d := by simp [Unt.gives]
 have HN : Unt.named ⟨11, d, a, b, l⟩ = [a] := by simp [Unt.named]
 unfold NamedPost
 rw [HG, HN]
 have HV := Lib.hid hv
 have HA := Lib.hid ha
 have HB := Lib.hid hb
 obtain ⟨hlen, hcap, hmax⟩ := hv.lens
 have HL := Lib.hid hlen
 have hmx' : len ≤ 1000000 := by omega
 clear HG HN hv ha hb hlen
 go_enter Tryz.func19, Tryz.ntmps19
 go_wp2_with fail
 go_ret2
 exact ⟨_, rfl, intsNew (B := ((w.alloc (.cells #[.int .i64 11, .int .i64 d, .int .i64 a, .int .i64 b, .slice o len cap] 34)).alloc (.cells #[.int .i64 a] 3)).heap.size) (by simp) (by simp) 3 [a] (by simp [HA.out]) 1 rfl (by omega), (Below.one _ _).trans ((Below.one _ _).mono (by simp))⟩
theorem named_12 (d a b : Int) (l : List Int) (o : Option Addr) (len cap : Nat) (B : Nat) (w : World) (ha : I64 a) (hb : I64 b) (hv : SlC w B 1 IntR l (.slice o len cap)) (_hB : B ≤ w.heap.size) (hmx : l.length ≤ 1000000) :
  Calls Tryz.prog 19 #[.agg #[.int .i64 12, .int .i64 d, .int .i64 a, .int .i64 b, .slice o len cap]] w (NamedPost ⟨12, d, a, b, l⟩ w) := by
 have HG : Unt.gives ⟨12, d, a, b, l⟩ = -1 := by simp [Unt.gives]
 have HN : Unt.named ⟨12, d, a, b, l⟩ = [a, b] := by simp [Unt.named]
 unfold NamedPost
 rw [HG, HN]
 have HV := Lib.hid hv
 have HA := Lib.hid ha
 have HB := Lib.hid hb
 obtain ⟨hlen, hcap, hmax⟩ := hv.lens
 have HL := Lib.hid hlen
 have hmx' : len ≤ 1000000 := by omega
 clear HG HN hv ha hb hlen
 go_enter Tryz.func19, Tryz.ntmps19
 go_wp2_with fail
 go_ret2
 exact ⟨_, rfl, intsNew (B := ((w.alloc (.cells #[.int .i64 12, .int .i64 d, .int .i64 a, .int .i64 b, .slice o len cap] 34)).alloc (.cells #[.int .i64 a, .int .i64 b] 3)).heap.size) (by simp) (by simp) 3 [a, b] (by simp [HA.out, HB.out]) 2 rfl (by omega), (Below.one _ _).trans ((Below.one _ _).mono (by simp))⟩
theorem named_13 (d a b : Int) (l : List Int) (o : Option Addr) (len cap : Nat) (B : Nat) (w : World) (ha : I64 a) (hb : I64 b) (hv : SlC w B 1 IntR l (.slice o len cap)) (_hB : B ≤ w.heap.size) (hmx : l.length ≤ 1000000) :
  Calls Tryz.prog 19 #[.agg #[.int .i64 13, .int .i64 d, .int .i64 a, .int .i64 b, .slice o len cap]] w (NamedPost ⟨13, d, a, b, l⟩ w) := by
 have HG : Unt.gives ⟨13, d, a, b, l⟩ = -1 := by simp [Unt.gives]
 have HN : Unt.named ⟨13, d, a, b, l⟩ = [a, b] := by simp [Unt.named]
 unfold NamedPost
 rw [HG, HN]
 have HV := Lib.hid hv
 have HA := Lib.hid ha
 have HB := Lib.hid hb
 obtain ⟨hlen, hcap, hmax⟩ := hv.lens
 have HL := Lib.hid hlen
 have hmx' : len ≤ 1000000 := by omega
 clear HG HN hv ha hb hlen
 go_enter Tryz.func19, Tryz.ntmps19
 go_wp2_with fail
 go_ret2
 exact ⟨_, rfl, intsNew (B := ((w.alloc (.cells #[.int .i64 13, .int .i64 d, .int .i64 a, .int .i64 b, .slice o len cap] 34)).alloc (.cells #[.int .i64 a, .int .i64 b] 3)).heap.size) (by simp) (by simp) 3 [a, b] (by simp [HA.out, HB.out]) 2 rfl (by omega), (Below.one _ _).trans ((Below.one _ _).mono (by simp))⟩
theorem named_14 (d a b : Int) (l : List Int) (o : Option Addr) (len cap : Nat) (B : Nat) (w : World) (ha : I64 a) (hb : I64 b) (hv : SlC w B 1 IntR l (.slice o len cap)) (_hB : B ≤ w.heap.size) (hmx : l.length ≤ 1000000) :
  Calls Tryz.prog 19 #[.agg #[.int .i64 14, .int .i64 d, .int .i64 a, .int .i64 b, .slice o len cap]] w (NamedPost ⟨14, d, a, b, l⟩ w) := by
 have HG : Unt.gives ⟨14, d, a, b, l⟩ = d := by simp [Unt.gives]
 have HN : Unt.named ⟨14, d, a, b, l⟩ = [a] := by simp [Unt.named]
 unfold NamedPost
 rw [HG, HN]
 have HV := Lib.hid hv
 have HA := Lib.hid ha
 have HB := Lib.hid hb
 obtain ⟨hlen, hcap, hmax⟩ := hv.lens
 have HL := Lib.hid hlen
 have hmx' : len ≤ 1000000 := by omega
 clear HG HN hv ha hb hlen
 go_enter Tryz.func19, Tryz.ntmps19
 go_wp2_with fail
 go_ret2
 exact ⟨_, rfl, intsNew (B := ((w.alloc (.cells #[.int .i64 14, .int .i64 d, .int .i64 a, .int .i64 b, .slice o len cap] 34)).alloc (.cells #[.int .i64 a] 3)).heap.size) (by simp) (by simp) 3 [a] (by simp [HA.out]) 1 rfl (by omega), (Below.one _ _).trans ((Below.one _ _).mono (by simp))⟩
theorem named_15 (d a b : Int) (l : List Int) (o : Option Addr) (len cap : Nat) (B : Nat) (w : World) (ha : I64 a) (hb : I64 b) (hv : SlC w B 1 IntR l (.slice o len cap)) (_hB : B ≤ w.heap.size) (hmx : l.length ≤ 1000000) :
  Calls Tryz.prog 19 #[.agg #[.int .i64 15, .int .i64 d, .int .i64 a, .int .i64 b, .slice o len cap]] w (NamedPost ⟨15, d, a, b, l⟩ w) := by
 have HG : Unt.gives ⟨15, d, a, b, l⟩ = -1 := by simp [Unt.gives]
 have HN : Unt.named ⟨15, d, a, b, l⟩ = [] := by simp [Unt.named]
 unfold NamedPost
 rw [HG, HN]
 have HV := Lib.hid hv
 have HA := Lib.hid ha
 have HB := Lib.hid hb
 obtain ⟨hlen, hcap, hmax⟩ := hv.lens
 have HL := Lib.hid hlen
 have hmx' : len ≤ 1000000 := by omega
 clear HG HN hv ha hb hlen
 go_enter Tryz.func19, Tryz.ntmps19
 go_wp2_with fail
 go_ret2
 exact ⟨_, rfl, ⟨none, 0, 0, rfl, rfl, by omega, by omega, rfl, rfl⟩, Below.one _ _⟩
theorem named_16 (d a b : Int) (l : List Int) (o : Option Addr) (len cap : Nat) (B : Nat) (w : World) (ha : I64 a) (hb : I64 b) (hv : SlC w B 1 IntR l (.slice o len cap)) (_hB : B ≤ w.heap.size) (hmx : l.length ≤ 1000000) :
  Calls Tryz.prog 19 #[.agg #[.int .i64 16, .int .i64 d, .int .i64 a, .int .i64 b, .slice o len cap]] w (NamedPost ⟨16, d, a, b, l⟩ w) := by
 have HG : Unt.gives ⟨16, d, a, b, l⟩ = -1 := by simp [Unt.gives]
 have HN : Unt.named ⟨16, d, a, b, l⟩ = [a] := by simp [Unt.named]
 unfold NamedPost
 rw [HG, HN]
 have HV := Lib.hid hv
 have HA := Lib.hid ha
 have HB := Lib.hid hb
 obtain ⟨hlen, hcap, hmax⟩ := hv.lens
 have HL := Lib.hid hlen
 have hmx' : len ≤ 1000000 := by omega
 clear HG HN hv ha hb hlen
 go_enter Tryz.func19, Tryz.ntmps19
 go_wp2_with fail
 go_ret2
 exact ⟨_, rfl, intsNew (B := ((w.alloc (.cells #[.int .i64 16, .int .i64 d, .int .i64 a, .int .i64 b, .slice o len cap] 34)).alloc (.cells #[.int .i64 a] 3)).heap.size) (by simp) (by simp) 3 [a] (by simp [HA.out]) 1 rfl (by omega), (Below.one _ _).trans ((Below.one _ _).mono (by simp))⟩
theorem named_17 (d a b : Int) (l : List Int) (o : Option Addr) (len cap : Nat) (B : Nat) (w : World) (ha : I64 a) (hb : I64 b) (hv : SlC w B 1 IntR l (.slice o len cap)) (hB : B ≤ w.heap.size) (hmx : l.length ≤ 1000000) :
  Calls Tryz.prog 19 #[.agg #[.int .i64 17, .int .i64 d, .int .i64 a, .int .i64 b, .slice o len cap]] w (NamedPost ⟨17, d, a, b, l⟩ w) := by
 have HG : Unt.gives ⟨17, d, a, b, l⟩ = d := by simp [Unt.gives]
 have HN : Unt.named ⟨17, d, a, b, l⟩ = a :: l := by simp [Unt.named]
 unfold NamedPost
 rw [HG, HN]
 have HV := Lib.hid hv
 have HA := Lib.hid ha
 have HB := Lib.hid hb
 obtain ⟨hlen, hcap, hmax⟩ := hv.lens
 have HL := Lib.hid hlen
 have hmx' : len ≤ 1000000 := by omega
 clear HG HN hv ha hb hlen
 go_enter Tryz.func19, Tryz.ntmps19
 have HO := Lib.hid (ownsRow_new (W := (w.alloc (.cells #[.int .i64 17, .int .i64 d, .int .i64 a, .int .i64 b, .slice o len cap] 34))) (b := w.heap.size + 1) (base := w.heap.size) (by simp) (by omega) 3 1 1 [.int .i64 a] rfl (by unfold maxLen; omega))
 have HS := Lib.hid (show SlC ((w.alloc (.cells #[.int .i64 17, .int .i64 d, .int .i64 a, .int .i64 b, .slice o len cap] 34)).alloc (.cells [.int .i64 a].toArray 3)) B 1 IntR l (.slice o len cap) from HV.out.kept (((Below.one w _).trans ((Below.one _ _).mono (by simp))).mono hB) fun _ _ _ h => h)
 go_wp2_with (at_builtin; refine wpList_append_ints rfl (.tmp 36) (.tmp 38) rfl w.heap.size B (.slice (some ⟨w.heap.size + 1, 0, none⟩) 1 1) [a] l rfl HO.out o len cap rfl HS.out (by have := HL.out; simp; omega) (by simp; omega) ?_)
 intro v' w2 hown hgrow
 have HR := Lib.hid hown
 have HBE := Lib.hid (show Below w.heap.size w w2 from ((Below.one w _).trans ((Below.one _ _).mono (by simp))).grown hgrow (by simp; omega) (fun g hg => by simp [Value.ownBlock] at hg; omega))
 have bx : BoxL w2 w.heap.size 34 [.int .i64 17, .int .i64 d, .int .i64 a, .int .i64 b, .slice o len cap] := (hgrow.block _ (by simp; omega) (by simp [Value.ownBlock])).trans ((BoxL.new rfl _ _).alloc _)
 have x0 := bx.cell 0 rfl
 have x1 := bx.cell 1 rfl
 clear hown hgrow bx
 go_wp2_with fail
 go_ret2
 exact ⟨_, rfl, rowInts (l := [a] ++ l) HR.out (by intro x hx; rcases List.mem_cons.1 hx with rfl | h; exact HA.out; exact HV.out.i64 x h), HBE.out⟩
theorem named_18 (d a b : Int) (l : List Int) (o : Option Addr) (len cap : Nat) (B : Nat) (w : World) (ha : I64 a) (hb : I64 b) (hv : SlC w B 1 IntR l (.slice o len cap)) (hB : B ≤ w.heap.size) (hmx : l.length ≤ 1000000) :
  Calls Tryz.prog 19 #[.agg #[.int .i64 18, .int .i64 d, .int .i64 a, .int .i64 b, .slice o len cap]] w (NamedPost ⟨18, d, a, b, l⟩ w) := by
 have HG : Unt.gives ⟨18, d, a, b, l⟩ = d := by simp [Unt.gives]
 have HN : Unt.named ⟨18, d, a, b, l⟩ = b :: l := by simp [Unt.named]
 unfold NamedPost
 rw [HG, HN]
 have HV := Lib.hid hv
 have HA := Lib.hid ha
 have HB := Lib.hid hb
 obtain ⟨hlen, hcap, hmax⟩ := hv.lens
 have HL := Lib.hid hlen
 have hmx' : len ≤ 1000000 := by omega
 clear HG HN hv ha hb hlen
 go_enter Tryz.func19, Tryz.ntmps19
 have HO := Lib.hid (ownsRow_new (W := (w.alloc (.cells #[.int .i64 18, .int .i64 d, .int .i64 a, .int .i64 b, .slice o len cap] 34))) (b := w.heap.size + 1) (base := w.heap.size) (by simp) (by omega) 3 1 1 [.int .i64 b] rfl (by unfold maxLen; omega))
 have HS := Lib.hid (show SlC ((w.alloc (.cells #[.int .i64 18, .int .i64 d, .int .i64 a, .int .i64 b, .slice o len cap] 34)).alloc (.cells [.int .i64 b].toArray 3)) B 1 IntR l (.slice o len cap) from HV.out.kept (((Below.one w _).trans ((Below.one _ _).mono (by simp))).mono hB) fun _ _ _ h => h)
 go_wp2_with (at_builtin; refine wpList_append_ints rfl (.tmp 45) (.tmp 47) rfl w.heap.size B (.slice (some ⟨w.heap.size + 1, 0, none⟩) 1 1) [b] l rfl HO.out o len cap rfl HS.out (by have := HL.out; simp; omega) (by simp; omega) ?_)
 intro v' w2 hown hgrow
 have HR := Lib.hid hown
 have HBE := Lib.hid (show Below w.heap.size w w2 from ((Below.one w _).trans ((Below.one _ _).mono (by simp))).grown hgrow (by simp; omega) (fun g hg => by simp [Value.ownBlock] at hg; omega))
 have bx : BoxL w2 w.heap.size 34 [.int .i64 18, .int .i64 d, .int .i64 a, .int .i64 b, .slice o len cap] := (hgrow.block _ (by simp; omega) (by simp [Value.ownBlock])).trans ((BoxL.new rfl _ _).alloc _)
 have x0 := bx.cell 0 rfl
 have x1 := bx.cell 1 rfl
 clear hown hgrow bx
 go_wp2_with fail
 go_ret2
 exact ⟨_, rfl, rowInts (l := [b] ++ l) HR.out (by intro x hx; rcases List.mem_cons.1 hx with rfl | h; exact HB.out; exact HV.out.i64 x h), HBE.out⟩
theorem named_19 (d a b : Int) (l : List Int) (o : Option Addr) (len cap : Nat) (B : Nat) (w : World) (ha : I64 a) (hb : I64 b) (hv : SlC w B 1 IntR l (.slice o len cap)) (hB : B ≤ w.heap.size) (hmx : l.length ≤ 1000000) :
  Calls Tryz.prog 19 #[.agg #[.int .i64 19, .int .i64 d, .int .i64 a, .int .i64 b, .slice o len cap]] w (NamedPost ⟨19, d, a, b, l⟩ w) := by
 have HG : Unt.gives ⟨19, d, a, b, l⟩ = -1 := by simp [Unt.gives]
 have HN : Unt.named ⟨19, d, a, b, l⟩ = a :: l := by simp [Unt.named]
 unfold NamedPost
 rw [HG, HN]
 have HV := Lib.hid hv
 have HA := Lib.hid ha
 have HB := Lib.hid hb
 obtain ⟨hlen, hcap, hmax⟩ := hv.lens
 have HL := Lib.hid hlen
 have hmx' : len ≤ 1000000 := by omega
 clear HG HN hv ha hb hlen
 go_enter Tryz.func19, Tryz.ntmps19
 have HO := Lib.hid (ownsRow_new (W := (w.alloc (.cells #[.int .i64 19, .int .i64 d, .int .i64 a, .int .i64 b, .slice o len cap] 34))) (b := w.heap.size + 1) (base := w.heap.size) (by simp) (by omega) 3 1 1 [.int .i64 a] rfl (by unfold maxLen; omega))
 have HS := Lib.hid (show SlC ((w.alloc (.cells #[.int .i64 19, .int .i64 d, .int .i64 a, .int .i64 b, .slice o len cap] 34)).alloc (.cells [.int .i64 a].toArray 3)) B 1 IntR l (.slice o len cap) from HV.out.kept (((Below.one w _).trans ((Below.one _ _).mono (by simp))).mono hB) fun _ _ _ h => h)
 go_wp2_with (at_builtin; refine wpList_append_ints rfl (.tmp 36) (.tmp 38) rfl w.heap.size B (.slice (some ⟨w.heap.size + 1, 0, none⟩) 1 1) [a] l rfl HO.out o len cap rfl HS.out (by have := HL.out; simp; omega) (by simp; omega) ?_)
 intro v' w2 hown hgrow
 have HR := Lib.hid hown
 have HBE := Lib.hid (show Below w.heap.size w w2 from ((Below.one w _).trans ((Below.one _ _).mono (by simp))).grown hgrow (by simp; omega) (fun g hg => by simp [Value.ownBlock] at hg; omega))
 have bx : BoxL w2 w.heap.size 34 [.int .i64 19, .int .i64 d, .int .i64 a, .int .i64 b, .slice o len cap] := (hgrow.block _ (by simp; omega) (by simp [Value.ownBlock])).trans ((BoxL.new rfl _ _).alloc _)
 have x0 := bx.cell 0 rfl
 have x1 := bx.cell 1 rfl
 clear hown hgrow bx
 go_wp2_with fail
 go_ret2
 exact ⟨_, rfl, rowInts (l := [a] ++ l) HR.out (by intro x hx; rcases List.mem_cons.1 hx with rfl | h; exact HA.out; exact HV.out.i64 x h), HBE.out⟩
theorem named_20 (d a b : Int) (l : List Int) (o : Option Addr) (len cap : Nat) (B : Nat) (w : World) (ha : I64 a) (hb : I64 b) (hv : SlC w B 1 IntR l (.slice o len cap)) (hB : B ≤ w.heap.size) (hmx : l.length ≤ 1000000) :
  Calls Tryz.prog 19 #[.agg #[.int .i64 20, .int .i64 d, .int .i64 a, .int .i64 b, .slice o len cap]] w (NamedPost ⟨20, d, a, b, l⟩ w) := by
 have HG : Unt.gives ⟨20, d, a, b, l⟩ = -1 := by simp [Unt.gives]
 have HN : Unt.named ⟨20, d, a, b, l⟩ = b :: l := by simp [Unt.named]
 unfold NamedPost
 rw [HG, HN]
 have HV := Lib.hid hv
 have HA := Lib.hid ha
 have HB := Lib.hid hb
 obtain ⟨hlen, hcap, hmax⟩ := hv.lens
 have HL := Lib.hid hlen
 have hmx' : len ≤ 1000000 := by omega
 clear HG HN hv ha hb hlen
 go_enter Tryz.func19, Tryz.ntmps19
 have HO := Lib.hid (ownsRow_new (W := (w.alloc (.cells #[.int .i64 20, .int .i64 d, .int .i64 a, .int .i64 b, .slice o len cap] 34))) (b := w.heap.size + 1) (base := w.heap.size) (by simp) (by omega) 3 1 1 [.int .i64 b] rfl (by unfold maxLen; omega))
 have HS := Lib.hid (show SlC ((w.alloc (.cells #[.int .i64 20, .int .i64 d, .int .i64 a, .int .i64 b, .slice o len cap] 34)).alloc (.cells [.int .i64 b].toArray 3)) B 1 IntR l (.slice o len cap) from HV.out.kept (((Below.one w _).trans ((Below.one _ _).mono (by simp))).mono hB) fun _ _ _ h => h)
 go_wp2_with (at_builtin; refine wpList_append_ints rfl (.tmp 45) (.tmp 47) rfl w.heap.size B (.slice (some ⟨w.heap.size + 1, 0, none⟩) 1 1) [b] l rfl HO.out o len cap rfl HS.out (by have := HL.out; simp; omega) (by simp; omega) ?_)
 intro v' w2 hown hgrow
 have HR := Lib.hid hown
 have HBE := Lib.hid (show Below w.heap.size w w2 from ((Below.one w _).trans ((Below.one _ _).mono (by simp))).grown hgrow (by simp; omega) (fun g hg => by simp [Value.ownBlock] at hg; omega))
 have bx : BoxL w2 w.heap.size 34 [.int .i64 20, .int .i64 d, .int .i64 a, .int .i64 b, .slice o len cap] := (hgrow.block _ (by simp; omega) (by simp [Value.ownBlock])).trans ((BoxL.new rfl _ _).alloc _)
 have x0 := bx.cell 0 rfl
 have x1 := bx.cell 1 rfl
 clear hown hgrow bx
 go_wp2_with fail
 go_ret2
 exact ⟨_, rfl, rowInts (l := [b] ++ l) HR.out (by intro x hx; rcases List.mem_cons.1 hx with rfl | h; exact HB.out; exact HV.out.i64 x h), HBE.out⟩
theorem named_21 (d a b : Int) (l : List Int) (o : Option Addr) (len cap : Nat) (B : Nat) (w : World) (ha : I64 a) (hb : I64 b) (hv : SlC w B 1 IntR l (.slice o len cap)) (hB : B ≤ w.heap.size) (hmx : l.length ≤ 1000000) :
  Calls Tryz.prog 19 #[.agg #[.int .i64 21, .int .i64 d, .int .i64 a, .int .i64 b, .slice o len cap]] w (NamedPost ⟨21, d, a, b, l⟩ w) := by
 have HG : Unt.gives ⟨21, d, a, b, l⟩ = -1 := by simp [Unt.gives]
 have HN : Unt.named ⟨21, d, a, b, l⟩ = l := by simp [Unt.named]
 unfold NamedPost
 rw [HG, HN]
 have HV := Lib.hid hv
 have HA := Lib.hid ha
 have HB := Lib.hid hb
 obtain ⟨hlen, hcap, hmax⟩ := hv.lens
 have HL := Lib.hid hlen
 have hmx' : len ≤ 1000000 := by omega
 clear HG HN hv ha hb hlen
 go_enter Tryz.func19, Tryz.ntmps19
 go_wp2_with fail
 go_ret2
 exact ⟨_, rfl, (HV.out.kept ((Below.one w _).mono hB) fun _ _ _ h => h).wider (by simp; omega), Below.one _ _⟩
theorem named_22 (d a b : Int) (l : List Int) (o : Option Addr) (len cap : Nat) (B : Nat) (w : World) (ha : I64 a) (hb : I64 b) (hv : SlC w B 1 IntR l (.slice o len cap)) (_hB : B ≤ w.heap.size) (hmx : l.length ≤ 1000000) :
  Calls Tryz.prog 19 #[.agg #[.int .i64 22, .int .i64 d, .int .i64 a, .int .i64 b, .slice o len cap]] w (NamedPost ⟨22, d, a, b, l⟩ w) := by
 have HG : Unt.gives ⟨22, d, a, b, l⟩ = -1 := by simp [Unt.gives]
 have HN : Unt.named ⟨22, d, a, b, l⟩ = [a] := by simp [Unt.named]
 unfold NamedPost
 rw [HG, HN]
 have HV := Lib.hid hv
 have HA := Lib.hid ha
 have HB := Lib.hid hb
 obtain ⟨hlen, hcap, hmax⟩ := hv.lens
 have HL := Lib.hid hlen
 have hmx' : len ≤ 1000000 := by omega
 clear HG HN hv ha hb hlen
 go_enter Tryz.func19, Tryz.ntmps19
 go_wp2_with fail
 go_ret2
 exact ⟨_, rfl, intsNew (B := ((w.alloc (.cells #[.int .i64 22, .int .i64 d, .int .i64 a, .int .i64 b, .slice o len cap] 34)).alloc (.cells #[.int .i64 a] 3)).heap.size) (by simp) (by simp) 3 [a] (by simp [HA.out]) 1 rfl (by omega), (Below.one _ _).trans ((Below.one _ _).mono (by simp))⟩
theorem named_any (x : Ins) (c0 c1 c2 c3 c4 : Value) (B : Nat) (w : World) (hx : InsR w B x [c0, c1, c2, c3, c4]) (hB : B ≤ w.heap.size) (hmx : x.l.length ≤ 1000000) (h0 : 0 ≤ x.op) (h1 : x.op ≤ 22) :
  Calls Tryz.prog 19 #[.agg #[c0, c1, c2, c3, c4]] w (NamedPost x w) := by
 obtain ⟨op, d, a, b, l⟩ := x
 obtain ⟨sl, he, _, _, ha, hb, hv⟩ := hx
 simp only [List.cons.injEq, and_true] at he
 obtain ⟨rfl, rfl, rfl, rfl, rfl⟩ := he
 obtain ⟨o, len, cap, rfl⟩ := hv.form
 dsimp only at ha hb hv hmx h0 h1
 obtain ⟨n, rfl⟩ : ∃ n : Nat, op = n := ⟨op.toNat, by omega⟩
 have hn : n ≤ 22 := by omega
 clear h0 h1
 match n, hn with
 | 0, _ => exact named_0 d a b l o len cap B w ha hb hv hB hmx
 | 1, _ => exact named_1 d a b l o len cap B w ha hb hv hB hmx
 | 2, _ => exact named_2 d a b l o len cap B w ha hb hv hB hmx
 | 3, _ => exact named_3 d a b l o len cap B w ha hb hv hB hmx
 | 4, _ => exact named_4 d a b l o len cap B w ha hb hv hB hmx
 | 5, _ => exact named_5 d a b l o len cap B w ha hb hv hB hmx
 | 6, _ => exact named_6 d a b l o len cap B w ha hb hv hB hmx
 | 7, _ => exact named_7 d a b l o len cap B w ha hb hv hB hmx
 | 8, _ => exact named_8 d a b l o len cap B w ha hb hv hB hmx
 | 9, _ => exact named_9 d a b l o len cap B w ha hb hv hB hmx
 | 10, _ => exact named_10 d a b l o len cap B w ha hb hv hB hmx
 | 11, _ => exact named_11 d a b l o len cap B w ha hb hv hB hmx
 | 12, _ => exact named_12 d a b l o len cap B w ha hb hv hB hmx
 | 13, _ => exact named_13 d a b l o len cap B w ha hb hv hB hmx
 | 14, _ => exact named_14 d a b l o len cap B w ha hb hv hB hmx
 | 15, _ => exact named_15 d a b l o len cap B w ha hb hv hB hmx
 | 16, _ => exact named_16 d a b l o len cap B w ha hb hv hB hmx
 | 17, _ => exact named_17 d a b l o len cap B w ha hb hv hB hmx
 | 18, _ => exact named_18 d a b l o len cap B w ha hb hv hB hmx
 | 19, _ => exact named_19 d a b l o len cap B w ha hb hv hB hmx
 | 20, _ => exact named_20 d a b l o len cap B w ha hb hv hB hmx
 | 21, _ => exact named_21 d a b l o len cap B w ha hb hv hB hmx
 | 22, _ => exact named_22 d a b l o len cap B w ha hb hv hB hmx
 | n + 23, h => omega
end
end Go.Proofs.YtigkhmppnnljiaaGreatDoor

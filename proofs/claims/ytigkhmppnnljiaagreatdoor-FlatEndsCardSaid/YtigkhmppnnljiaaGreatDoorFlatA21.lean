/-
  What the proofs lean on: LawsL, ChkC, MkEq, FragLaw.
-/
import Derived.Deep.LoopGhost
import Derived.Deep.QuietTactic
import Derived.BigQuiet
import Derived.Defers
import Derived.Test.YtigkhmppnnljiaaGreatDoorFlatA09
import Derived.Test.YtigkhmppnnljiaaGreatDoorFlatA10
import Derived.Test.YtigkhmppnnljiaaGreatDoorFlatA18
import Derived.Test.YtigkhmppnnljiaaGreatDoorFlatA20
namespace Go.Proofs.YtigkhmppnnljiaaGreatDoor
open Go.RowKit

end Go.Proofs.YtigkhmppnnljiaaGreatDoor

namespace Go.Proofs.YtigkhmppnnljiaaGreatDoor
open Go.RowKit

end Go.Proofs.YtigkhmppnnljiaaGreatDoor

namespace Go.Proofs.YtigkhmppnnljiaaGreatDoor
open Go.RowKit

/-- A block of the call's own reads as a slice. -/
theorem slC_of_box {α : Type} {w : World} {B b size n : Nat} {te : TypeId} {R : α → List Value → Prop} {l : List α} {cs : List Value} (hb : BoxL w b te cs) (hB : b < B) (hc : CellsG size R l cs) (hn : n = l.length) (hm : n ≤ 1000000) : SlC w B size R l (.slice (some ⟨b, 0, none⟩) n n) := by
  refine ⟨_, n, n, rfl, hn, Nat.le_refl _, by omega, fun _ => ⟨rfl, hB⟩, fun i x hx => ?_⟩
  obtain ⟨cs', h1, h2, h3⟩ := hc.at hx
  exact ⟨cs', h1, fun j u hj => by have := h3 j u hj; simpa using hb.cell _ this, h2⟩
theorem ints_nil (w : World) (B : Nat) : SlC w B 1 IntR [] (.slice none 0 0) := ⟨none, 0, 0, rfl, rfl, by omega, by omega, rfl, rfl⟩
namespace Live
end Live

end Go.Proofs.YtigkhmppnnljiaaGreatDoor

namespace Go.Proofs.YtigkhmppnnljiaaGreatDoor
open Go.RowKit

namespace Live
open Unt Peep
end Live
end Go.Proofs.YtigkhmppnnljiaaGreatDoor

namespace Go.Proofs.YtigkhmppnnljiaaGreatDoor
open Go Go.RowKit

theorem SlC.takes {α : Type} {w : World} {B size : Nat} {R : α → List Value → Prop} {l : List α} {o : Option Addr} {len cap n : Nat} (h : SlC w B size R l (.slice o len cap)) (hn : n ≤ len) : SlC w B size R (l.take n) (.slice o n cap) := by
  obtain ⟨o', len', cap', he, h1, h2, h3, h4⟩ := h
  simp only [Value.slice.injEq] at he
  obtain ⟨rfl, rfl, rfl⟩ := he
  refine ⟨o, n, cap, rfl, by rw [List.length_take]; omega, by omega, h3, ?_⟩
  cases o with
  | none => exact ⟨by rw [h4.1]; simp, h4.2⟩
  | some a =>
    refine ⟨fun hl => h4.1 (fun e => hl (by rw [e]; simp)), fun i x hx => h4.2 i x ?_⟩
    rw [List.getElem?_take] at hx
    split at hx
    · exact hx
    · cases hx
theorem SlC.drops {α : Type} {w : World} {B size : Nat} {R : α → List Value → Prop} {l : List α} {b off len cap n : Nat} (h : SlC w B size R l (.slice (some ⟨b, off, none⟩) len cap)) (hn : n ≤ len) : SlC w B size R (l.drop n) (.slice (some ⟨b, off + n * size, none⟩) (len - n) (cap - n)) := by
  obtain ⟨o', len', cap', he, h1, h2, h3, h4⟩ := h
  simp only [Value.slice.injEq] at he
  obtain ⟨rfl, rfl, rfl⟩ := he
  refine ⟨_, len - n, cap - n, rfl, by rw [List.length_drop]; omega, by omega, by omega, fun hl => ⟨rfl, (h4.1 (fun e => hl (by rw [e]; simp))).2⟩, fun i x hx => ?_⟩
  rw [List.getElem?_drop] at hx
  obtain ⟨cs, g1, g2, g3⟩ := h4.2 (n + i) x hx
  refine ⟨cs, g1, fun j u hj => ?_, g3⟩
  have := g2 j u hj
  rw [show off + n * size + i * size + j = off + (n + i) * size + j by rw [Nat.add_mul]; omega]
  exact this

set_option maxHeartbeats 2000000 in
set_option maxRecDepth 100000 in
theorem procedures1_to (o n : Int) (vs ts : Value) (ov ot : Option Addr) (lv cv lt ct : Nat) (hv : vs = .slice ov lv cv) (ht : ts = .slice ot lt ct) (pb : Nat) (w : World) (hp : BoxL w pb 3 [.int .i64 19]) :
    Calls Tryz.prog 142 #[.agg #[.int .i64 o, .int .i64 n, vs, ts], .pointer (some ⟨pb, 0, none⟩)] w fun e w' => e = .returned (.bool (o != 19)) ∧ Below w.heap.size w w' := by
  subst hv ht
  have p0 := hp.cell 0 rfl
  have pl := hp.lt
  clear hp
  by_cases h : o = 19
  · subst h
    go_enter Tryz.func142, Tryz.ntmps142
    go_wp2_with fail
    go_ret
    exact ⟨rfl, Below.one w _⟩
  · have f0 : (o != 19) = true := by simpa using h
    go_enter Tryz.func142, Tryz.ntmps142
    go_wp2_with fail
    go_ret
    exact ⟨by rw [f0]; rfl, Below.one w _⟩

set_option maxHeartbeats 2000000 in
set_option maxRecDepth 100000 in
/-- Are all terms of a Fix closures? -/
theorem procedures_any (l : List Trm) (sl : Value) (B cb : Nat) (nc nk size : Int) (fr : Bool) (bb : Nat) (w : World) (hv : TrmS w B l sl) (hB : B ≤ w.heap.size) (hc : BoxL w cb 103 [.int .i64 3, .int .i64 nc, .int .i64 nk, .bool fr, .int .i64 size, .map (some bb)]) :
    Calls Tryz.prog 107 #[.pointer (some ⟨cb, 0, none⟩), sl] w fun e w' => e = .returned (.bool (l.all fun x => x.op == 19)) ∧ Below w.heap.size w w' := by
  obtain ⟨r, hr⟩ : ∃ r, (l.all fun x => x.op == 19) = r := ⟨_, rfl⟩
  rw [hr]
  have HR := Lib.hid hr
  obtain ⟨W1, hW1⟩ : ∃ W1, w.alloc (.cells #[.int .i64 19] 3) = W1 := ⟨_, rfl⟩
  have HW := Lib.hid hW1
  have HB1 := Lib.hid (show Below w.heap.size w W1 from by rw [← hW1]; exact Below.one w _)
  have HP := Lib.hid (show BoxL W1 w.heap.size 3 [.int .i64 19] from by rw [← hW1]; exact BoxL.new rfl _ _)
  have HS := Lib.hid (TrmS.kept hv (HB1.out.mono hB))
  obtain ⟨o, len, cap, rfl, h1, h2, h3⟩ := SlC.slice hv
  have hbw : B ≤ W1.heap.size := Nat.le_trans hB HB1.out.size
  have HC := Lib.hid (containsT_S 142 #[.pointer (some ⟨w.heap.size, 0, none⟩)] l (.slice o len cap) B W1 (fun j W => (l.take j).all (fun x => x.op == 19) = true ∧ Below W1.heap.size W1 W) (fun W => r = false ∧ Below W1.heap.size W1 W) HS.out (fun _ _ => rfl) (fun j W h => h.2.mono hbw) ⟨by simp, Below.refl _ _⟩ (fun j x hx c0 c1 c2 c3 W ht hst => by
    obtain ⟨op, n, v, t⟩ := x
    obtain ⟨vs, ts, he, _, _, hvs, hts⟩ := trmR_iff.1 ht
    simp only [List.cons.injEq, and_true] at he
    obtain ⟨rfl, rfl, rfl, rfl⟩ := he
    obtain ⟨ov, lv, cv, rfl⟩ := hvs.form
    obtain ⟨ot, lt, ct, rfl⟩ := hts.form
    refine (procedures1_to op n _ _ ov ot lv cv lt ct rfl rfl w.heap.size W (HP.out.keep hst.2)).mono ?_
    rintro e W' ⟨rfl, hb⟩
    refine ⟨_, rfl, fun h => ⟨?_, Below.next hst.2 hb⟩, fun h => ⟨?_, Below.next hst.2 hb⟩⟩
    · rw [← HR.out]
      rw [List.all_eq_false]
      exact ⟨_, List.mem_of_getElem? hx, by simpa [Trm.op] using h⟩
    · rw [List.take_add_one, hx, List.all_append, hst.1]
      simpa [Trm.op] using h))
  have c0 := (hc.keep (Below.one w (.cells #[.int .i64 4] 3))).cell 0 rfl
  have cl := hc.lt
  clear hr hv hc hW1 h1 h2 h3
  go_enter Tryz.func107, Tryz.ntmps107
  go_upto_region 4 with fail
  rw [HW.out]
  go_wp2_with fail
  refine HC.out.mono ?_
  rintro e w1 ⟨c, rfl, h1, h2⟩
  have H1 := Lib.hid h1
  have H2 := Lib.hid h2
  clear h1 h2
  cases c with
  | true =>
    go_wp2_with fail
    go_ret
    obtain ⟨h0, hb⟩ := H1.out trivial
    subst h0
    exact ⟨rfl, HB1.out.trans (hb.mono HB1.out.size)⟩
  | false =>
    go_wp2_with fail
    go_ret
    have h := H2.out trivial
    rw [List.take_of_length_le (Nat.le_refl _), HR.out] at h
    obtain ⟨h0, hb⟩ := h
    subst h0
    exact ⟨rfl, HB1.out.trans (hb.mono HB1.out.size)⟩

set_option maxHeartbeats 2000000 in
set_option maxRecDepth 100000 in
/-- What right defers: the variables leave the scope. -/
theorem right1_deferred (op n : Int) (v : List Int) (ov ot : Option Addr) (lv cv lt ct : Nat) (B tb qb sb m : Nat) (g : Int → Bool) (w : World) (hv : SlC w B 1 IntR v (.slice ov lv cv)) (hB : B ≤ w.heap.size) (hsB : B ≤ sb)
    (ht : BoxL w tb 41 [.int .i64 op, .int .i64 n, .slice ov lv cv, .slice ot lt ct]) (hq : BoxL w qb 101 [.map (some sb)]) (hm : MapVB w sb m g) :
    CallsD Tryz.prog 104 #[.pointer (some ⟨tb, 0, none⟩), .pointer (some ⟨qb, 0, none⟩)] .returning w fun e u' w' => u' = .returning ∧ (e = .returned (.tuple #[]) ∧ MapVB w' sb m (fun x => g x && !v.contains x) ∧ Turned (fun b => b = sb) w w') := by
  obtain ⟨hlen, hcap, hmax⟩ := hv.lens
  have HV := Lib.hid hv
  have HL := Lib.hid hlen
  have HT := Lib.hid ht
  have HQ := Lib.hid hq
  have HM := Lib.hid hm
  have hts : tb ≠ sb := map_box_ne hm ht
  have hqs : qb ≠ sb := map_box_ne hm hq
  have t2 := ht.cell 2 rfl
  have tl := ht.lt
  clear hv hlen ht hq hm
  go_enter_d Tryz.func104, Tryz.ntmps104
  go_wp2_with fail
  go_loopg [7] lv (fun G i wr => ∃ (j : Nat), G = lv - j ∧ i = .int .i64 j ∧ j ≤ lv ∧ Hid (MapVB wr sb m (fun x => g x && !(v.take j).contains x)) ∧ Hid (Turned (fun b => b = sb) w wr))
  case atStart => exact ⟨0, rfl, rfl, by omega, Lib.hid (by simpa using HM.out), Lib.hid (Turned.refl _ _)⟩
  case round =>
    obtain ⟨j, rfl, rfl, hj, HA, HTU⟩ := hrel
    by_cases hjl : j < lv
    · obtain ⟨x, hx⟩ : ∃ x, v[j]? = some x := ⟨_, List.getElem?_eq_getElem (by rw [← HL.out]; exact hjl)⟩
      obtain ⟨b, off, cs, ho, _, hcl, hcell, hir⟩ := HV.out.at (HTU.out.below (fun b hb => by rw [hb]; exact hsB) hB) hx
      subst ho
      obtain ⟨rfl, hxi⟩ := hir
      have e0 := hcell 0 _ rfl
      simp only [Nat.add_zero, Nat.mul_one] at e0
      have HTK := Lib.hid (show v.take (j + 1) = v.take j ++ [x] by rw [List.take_add_one, hx]; rfl)
      have HI := Lib.hid hxi
      have q0 := (HTU.out.box HQ.out hqs).cell 0 rfl
      have ql := (HTU.out.box HQ.out hqs).lt
      clear hx hcell hxi
      go_wp2_with (at_delete; refine wpList_delVB rfl _ _ rfl sb m _ rfl HA.out x rfl HI.out ?_; intro w1 hm1 hg1; have HM1 := Lib.hid hm1; have HG1 := Lib.hid hg1; clear hm1 hg1)
      go_roundg (lv - (j + 1))
      case measure => omega
      case rel =>
        refine ⟨j + 1, rfl, by go_num, by omega, Lib.hid ?_, Lib.hid (HTU.out.next (Turned.grown HG1.out (fun b hb => by simpa using hb.symm)))⟩
        have e : (fun y => g y && !(v.take (j + 1)).contains y) = fun y => if y = x then false else (g y && !(v.take j).contains y) := by
          funext y
          rw [HTK.out]
          by_cases h : y = x
          · simp [h]
          · simp [h]
        rw [e]
        exact HM1.out
    · obtain rfl : j = lv := by omega
      have HE := Lib.hid (show v.take j = v from List.take_of_length_le (by rw [← HL.out]; exact Nat.le_refl _))
      have HM2 := HA.out
      rw [HE.out] at HM2
      have HM3 := Lib.hid HM2
      clear HM2
      go_wp2_with fail
      go_end0
      exact ⟨rfl, HM3.out, HTU.out⟩
end Go.Proofs.YtigkhmppnnljiaaGreatDoor

namespace Go.Proofs.YtigkhmppnnljiaaGreatDoor
namespace Mk

end Mk
namespace Mdl
theorem codes_each {nc nk : Int} : ∀ {l : List Cod} {B : Int → Bool}, codesB nc nk l B = true → ∀ c ∈ l, Trm.wf nc nk true c.body (Trm.addV (fun _ => false) c.v) = true ∧ (c.v ++ c.body.bnd).Nodup ∧ (c.rest = true → 0 < c.v.length)
  | [], _, _, c, h => by simp at h
  | x :: l, B, h, c, hc => by
    rw [codesB] at h
    simp only [Bool.and_eq_true] at h
    obtain ⟨h1, h2, h3, h4⟩ := h
    rcases List.mem_cons.1 hc with rfl | hc
    · exact ⟨h3, ((Trm.newB_iff _ _).1 h2).2, fun hr => by simpa [hr] using h1⟩
    · exact codes_each h4 c hc
end Mdl
end Go.Proofs.YtigkhmppnnljiaaGreatDoor

namespace Go.Proofs.YtigkhmppnnljiaaGreatDoor
namespace Mk
open Unt (named gives)

/-- A fact of each instruction at its place. -/
def AllAt (p : Nat → Ins → Prop) : Nat → List Ins → Prop
  | _, [] => True
  | b, x :: s => p b x ∧ AllAt p (b + 1) s
theorem AllAt.append {p : Nat → Ins → Prop} : ∀ {s t : List Ins} {b : Nat}, AllAt p b s → AllAt p (b + s.length) t → AllAt p b (s ++ t)
  | [], t, b, _, h => by simpa using h
  | x :: s, t, b, h1, h2 => ⟨h1.1, AllAt.append h1.2 (by rw [List.length_cons] at h2; rw [show b + 1 + s.length = b + (s.length + 1) by omega]; exact h2)⟩
theorem AllAt.imp {p q : Nat → Ins → Prop} : ∀ {s : List Ins} {b : Nat}, AllAt p b s → (∀ k x, b ≤ k → k < b + s.length → p k x → q k x) → AllAt q b s
  | [], _, _, _ => trivial
  | x :: s, b, h, hi => ⟨hi b x (Nat.le_refl _) (by simp) h.1, h.2.imp fun k y hk hl => hi k y (by omega) (by rw [List.length_cons]; omega)⟩
theorem AllAt.at {p : Nat → Ins → Prop} : ∀ {s : List Ins} {b i : Nat} {x : Ins}, AllAt p b s → s[i]? = some x → p (b + i) x
  | [], _, _, _, _, h => by simp at h
  | y :: s, b, 0, x, h, hx => by
    simp only [List.getElem?_cons_zero, Option.some.injEq] at hx
    rw [← hx]; exact h.1
  | y :: s, b, i + 1, x, h, hx => by
    have := h.2.at (i := i) (by simpa using hx)
    rw [show b + (i + 1) = b + 1 + i by omega]; exact this
/-- Where an instruction goes on: ahead, and not behind e. -/
def Fwd (e k : Nat) (x : Ins) : Prop := (0 ≤ x.op ∧ x.op ≤ 22) ∧ (x.op = 15 → (k : Int) + 1 < x.a ∧ x.a ≤ e) ∧ (x.op = 16 → (k : Int) < x.b ∧ x.b < e)
theorem Fwd.mono {e e' k : Nat} {x : Ins} (h : Fwd e k x) (he : e ≤ e') : Fwd e' k x := ⟨h.1, fun hx => ⟨(h.2.1 hx).1, by have := (h.2.1 hx).2; omega⟩, fun hx => ⟨(h.2.2 hx).1, by have := (h.2.2 hx).2; omega⟩⟩
theorem Frag.fwd {G E : Int → Prop} {b : Nat} {s : List Ins} (h : Frag G b s E) : AllAt (Fwd (b + s.length)) b s := by
  induction h with
  | nil => trivial
  | one G b x h1 h2 h3 => exact ⟨⟨by omega, fun h => absurd h h1.2.1, fun h => absurd h h1.2.2.1⟩, trivial⟩
  | @cat G E F b s t h1 h2 ih1 ih2 =>
    rw [List.length_append, ← Nat.add_assoc]
    exact (ih1.imp fun k x _ _ h => h.mono (by omega)).append ih2
  | sub h1 h2 ih => exact ih
  | @cond G E b s t c hc h1 h2 ht ih1 ih2 =>
    have hl : 0 < t.length := List.length_pos_iff.2 ht
    simp only [List.length_cons, List.length_append]
    refine ⟨⟨by simp, by simp, fun _ => ⟨by dsimp only; omega, by dsimp only; omega⟩⟩, (ih1.imp fun k x _ _ h => h.mono (by omega)).append ⟨⟨by simp, fun _ => ⟨by dsimp only; omega, by dsimp only; omega⟩, by simp⟩, ih2.imp fun k x _ _ h => h.mono (by omega)⟩⟩
theorem FragE.fwd {G : Int → Prop} {b : Nat} {s : List Ins} (h : FragE G b s) : AllAt (Fwd (b + s.length)) b s := by
  induction h with
  | one G b x h1 h2 => exact ⟨⟨by omega, fun h => by omega, fun h => by omega⟩, trivial⟩
  | @cat G E b s t h1 h2 ih =>
    rw [List.length_append, ← Nat.add_assoc]
    exact (h1.fwd.imp fun k x _ _ h => h.mono (by omega)).append ih
  | @cond G b s t c hc h1 h2 ih1 ih2 =>
    obtain ⟨y, l, ht, _⟩ := h2.head
    have hl : 0 < t.length := by rw [ht]; simp
    simp only [List.length_cons, List.length_append]
    refine ⟨⟨by simp, by simp, fun _ => ⟨by dsimp only; omega, by dsimp only; omega⟩⟩, (ih1.imp fun k x _ _ h => h.mono (by omega)).append (ih2.imp fun k x _ _ h => h.mono (by omega))⟩
theorem FragE.last {G : Int → Prop} {b : Nat} {s : List Ins} (h : FragE G b s) : ∃ l x, s = l ++ [x] ∧ 19 ≤ x.op ∧ x.op ≤ 22 := by
  induction h with
  | one G b x h1 h2 => exact ⟨[], x, rfl, h1⟩
  | @cat G E b s t h1 h2 ih =>
    obtain ⟨l, x, rfl, hx⟩ := ih
    exact ⟨s ++ l, x, by simp, hx⟩
  | @cond G b s t c hc h1 h2 ih1 ih2 =>
    obtain ⟨l, x, rfl, hx⟩ := ih2
    exact ⟨⟨16, 0, c, (b + 1 + s.length : Nat), []⟩ :: (s ++ l), x, by simp, hx⟩

/-! ### given before it is used -/
/-- One behind another: each register that is named is given. -/
def Lin : (Int → Prop) → List Ins → Prop
  | _, [] => True
  | G, x :: s => (∀ r ∈ named x, G r) ∧ Lin (fun r => G r ∨ r = gives x) s
/-- What is given behind. -/
def aft (G : Int → Prop) (s : List Ins) (r : Int) : Prop := G r ∨ ∃ y ∈ s, r = gives y
theorem Lin.mono : ∀ {s : List Ins} {G G' : Int → Prop}, Lin G s → (∀ r, G r → G' r) → Lin G' s
  | [], _, _, _, _ => trivial
  | _ :: _, _, _, h, hG => ⟨fun r hr => hG r (h.1 r hr), h.2.mono fun r hr => hr.imp (hG r) id⟩
theorem Lin.append : ∀ {s t : List Ins} {G : Int → Prop}, Lin G s → Lin (aft G s) t → Lin G (s ++ t)
  | [], t, G, _, h => h.mono fun r hr => by simpa [aft] using hr
  | x :: s, t, G, h1, h2 => ⟨h1.1, Lin.append h1.2 (h2.mono fun r hr => by
      rcases hr with hr | ⟨y, hy, rfl⟩
      · exact .inl (.inl hr)
      · rcases List.mem_cons.1 hy with rfl | hy
        · exact .inl (.inr rfl)
        · exact .inr ⟨y, hy, rfl⟩)⟩
theorem aft_append {G : Int → Prop} {s t : List Ins} {r : Int} (h : aft (aft G s) t r) : aft G (s ++ t) r := by
  rcases h with (h | ⟨y, hy, h⟩) | ⟨y, hy, h⟩
  · exact .inl h
  · exact .inr ⟨y, by simp [hy], h⟩
  · exact .inr ⟨y, by simp [hy], h⟩
theorem aft_mono {G G' : Int → Prop} {s : List Ins} {r : Int} (h : aft G s r) (hG : ∀ r, G r → G' r) : aft G' s r := h.imp (hG r) id
theorem Frag.lin {G E : Int → Prop} {b : Nat} {s : List Ins} (h : Frag G b s E) : Lin G s ∧ ∀ r, E r → aft G s r := by
  induction h with
  | nil => exact ⟨trivial, fun r h => .inl h⟩
  | one G b x h1 h2 h3 => exact ⟨⟨h2, trivial⟩, fun r h => h.imp id fun h => ⟨x, by simp, h⟩⟩
  | @cat G E F b s t h1 h2 ih1 ih2 => exact ⟨ih1.1.append (ih2.1.mono ih1.2), fun r hr => aft_append (aft_mono (ih2.2 r hr) ih1.2)⟩
  | sub h1 h2 ih => exact ⟨ih.1, fun r hr => ih.2 r (h2 r hr)⟩
  | @cond G E b s t c hc h1 h2 ht ih1 ih2 =>
    refine ⟨⟨by simpa [named] using hc, (ih1.1.mono fun r hr => .inl hr).append ⟨by simp [named], ih2.1.mono fun r hr => .inl (.inl (.inl hr))⟩⟩, fun r hr => ?_⟩
    rcases ih1.2 r hr with h | ⟨y, hy, h⟩
    · exact .inl h
    · exact .inr ⟨y, by simp [hy], h⟩
theorem FragE.lin {G : Int → Prop} {b : Nat} {s : List Ins} (h : FragE G b s) : Lin G s := by
  induction h with
  | one G b x h1 h2 => exact ⟨h2, trivial⟩
  | @cat G E b s t h1 h2 ih => exact h1.lin.1.append (ih.mono h1.lin.2)
  | @cond G b s t c hc h1 h2 ih1 ih2 => exact ⟨by simpa [named] using hc, (ih1.mono fun r hr => .inl hr).append (ih2.mono fun r hr => .inl (.inl hr))⟩
end Mk
end Go.Proofs.YtigkhmppnnljiaaGreatDoor

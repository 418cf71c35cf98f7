/-
  What the proofs lean on: ChkB, ChkN.
-/
import Derived.Deep.LoopGhost
import Derived.Deep.Cut
import Derived.Deep.CutRange
import Derived.Test.YtigkhmppnnljiaaGreatDoorShiftA06
import Derived.Test.YtigkhmppnnljiaaGreatDoorShiftA09
import Derived.Test.YtigkhmppnnljiaaGreatDoorShiftA16
namespace Go.Proofs.YtigkhmppnnljiaaGreatDoor
open Go Go.RowKit

/-- The checker's blocks. -/
def S3 (a b c : Nat) (x : Nat) : Prop := x = a ∨ x = b ∨ x = c
/-- A set, by a list. -/
def setOf (l : List Int) : Int → Bool := Trm.addV (fun _ => false) l
/-- The checker holds so much; l: what is bound; sc: the scope. -/
structure ChkS (W : World) (cb bb sb : Nat) (nc nk : Int) (fr : Bool) (size : Int) (l : List Int) (sc : Int → Bool) : Prop where
  box : BoxL W cb 103 [.int .i64 3, .int .i64 nc, .int .i64 nk, .bool fr, .int .i64 size, .map (some bb)]
  bound : MapVB W bb l.length (setOf l)
  scope : MapVB W sb l.length sc
  new : Trm.newB (fun _ => false) l = true
  ne : bb ≠ sb
/-- .. or is of no use any more. -/
structure ChkX (W : World) (cb bb sb : Nat) (nc nk : Int) (fr : Bool) : Prop where
  box : ∃ size, BoxL W cb 103 [.int .i64 3, .int .i64 nc, .int .i64 nk, .bool fr, .int .i64 size, .map (some bb)]
  bound : ∃ m f, MapVB W bb m f
  scope : ∃ m f, MapVB W sb m f
  ne : bb ≠ sb
theorem ChkS.bad {W : World} {cb bb sb : Nat} {nc nk : Int} {fr : Bool} {size : Int} {l : List Int} {sc : Int → Bool} (h : ChkS W cb bb sb nc nk fr size l sc) : ChkX W cb bb sb nc nk fr := ⟨⟨_, h.box⟩, ⟨_, _, h.bound⟩, ⟨_, _, h.scope⟩, h.ne⟩
theorem map_box_ne {W : World} {b c n : Nat} {f : Int → Bool} {t : TypeId} {cs : List Value} (h : MapVB W b n f) (hc : BoxL W c t cs) : c ≠ b := fun e => by
  subst e
  obtain ⟨D, ⟨es, clock, hb, _⟩, _⟩ := h
  rw [show W.heap[c]? = _ from hc] at hb
  simp at hb
theorem ChkS.keep {W W' : World} {cb bb sb : Nat} {nc nk : Int} {fr : Bool} {size : Int} {l : List Int} {sc : Int → Bool} (h : ChkS W cb bb sb nc nk fr size l sc) (hb : Below W.heap.size W W') : ChkS W' cb bb sb nc nk fr size l sc := ⟨h.box.keep hb, h.bound.keep hb, h.scope.keep hb, h.new, h.ne⟩
theorem ChkX.keep {W W' : World} {cb bb sb : Nat} {nc nk : Int} {fr : Bool} (h : ChkX W cb bb sb nc nk fr) (hb : Below W.heap.size W W') : ChkX W' cb bb sb nc nk fr := by
  obtain ⟨⟨s, h1⟩, ⟨m, f, h2⟩, ⟨m', f', h3⟩, h4⟩ := h
  exact ⟨⟨s, h1.keep hb⟩, ⟨m, f, h2.keep hb⟩, ⟨m', f', h3.keep hb⟩, h4⟩
theorem ChkS.room {W : World} {cb bb sb : Nat} {nc nk : Int} {fr : Bool} {size : Int} {l : List Int} {sc : Int → Bool} (h : ChkS W cb bb sb nc nk fr size l sc) : l.length ≤ 1000001 := Trm.newB_short h.new
theorem setOf_snoc (l : List Int) (x : Int) : setOf (l ++ [x]) = fun y => if y = x then true else setOf l y := by
  funext y
  by_cases h : y = x
  · simp [setOf, Trm.addV, h]
  · simp [setOf, Trm.addV, h]
theorem addV_snoc (f : Int → Bool) (l : List Int) (x : Int) : Trm.addV f (l ++ [x]) = fun y => if y = x then true else Trm.addV f l y := by
  funext y
  by_cases h : y = x
  · simp [Trm.addV, h]
  · simp [Trm.addV, h]
theorem newB_snoc {l : List Int} {x : Int} (h : Trm.newB (fun _ => false) l = true) : Trm.newB (fun _ => false) (l ++ [x]) = (decide (0 ≤ x) && (decide (x ≤ 1000000) && !setOf l x)) := by
  rw [Trm.newB_append, h, Bool.true_and, Trm.newB, Trm.newB, Bool.and_true]
  rfl
theorem newB_prefix {l m : List Int} (h : Trm.newB (fun _ => false) l = false) : Trm.newB (fun _ => false) (l ++ m) = false := by rw [Trm.newB_append, h, Bool.false_and]
/-- What a part of the checker leaves: a Bool, and what is bound. -/
def ChkPost (cb bb sb : Nat) (nc nk : Int) (fr : Bool) (r : Bool) (Good : World → Prop) (w : World) (e : Ending) (w' : World) : Prop := e = .returned (.bool r) ∧ Turned (S3 cb bb sb) w w' ∧ (r = true → Good w') ∧ (r = false → ChkX w' cb bb sb nc nk fr)

set_option maxHeartbeats 4000000 in
set_option maxRecDepth 100000 in
/-- Variables are bound, in what is bound and in the scope. -/
theorem bind_any (cb bb sb : Nat) (nc nk : Int) (fr : Bool) (size : Int) (l v : List Int) (sc : Int → Bool) (B : Nat) (w : World) (ov : Option Addr) (lv cv : Nat) (hv : SlC w B 1 IntR v (.slice ov lv cv)) (hS : ∀ b, S3 cb bb sb b → B ≤ b) (hB : B ≤ w.heap.size) (hc : ChkS w cb bb sb nc nk fr size l sc) :
    Calls Tryz.prog 70 #[.pointer (some ⟨cb, 0, none⟩), .slice ov lv cv, .map (some sb)] w (ChkPost cb bb sb nc nk fr (Trm.newB (fun _ => false) (l ++ v)) (fun w' => ChkS w' cb bb sb nc nk fr size (l ++ v) (Trm.addV sc v)) w) := by
  obtain ⟨r, hr⟩ : ∃ r, Trm.newB (fun _ => false) (l ++ v) = r := ⟨_, rfl⟩
  rw [hr]
  have HR := Lib.hid hr
  have HV := Lib.hid hv
  obtain ⟨hlen, hcap, hmax⟩ := hv.lens
  have HL := Lib.hid hlen
  have HC := Lib.hid hc
  have HSB := Lib.hid hS
  clear hr hv hlen hc hS
  go_enter Tryz.func70, Tryz.ntmps70
  go_wp2_with fail
  go_loopg [11] lv (fun g i wr => ∃ (j : Nat), g = lv - j ∧ i = .int .i64 j ∧ j ≤ lv ∧ Hid (ChkS wr cb bb sb nc nk fr size (l ++ v.take j) (Trm.addV sc (v.take j))) ∧ Hid (Turned (S3 cb bb sb) w wr))
  case atStart => exact ⟨0, rfl, rfl, by omega, by rw [List.take_zero, List.append_nil, Trm.addV_nil]; exact HC, Lib.hid (Turned.refl _ _)⟩
  case round =>
    obtain ⟨j, rfl, rfl, hj, HA, HT⟩ := hrel
    by_cases hjl : j < lv
    · obtain ⟨x, hx⟩ : ∃ x, v[j]? = some x := ⟨_, List.getElem?_eq_getElem (by rw [← HL.out]; exact hjl)⟩
      obtain ⟨b, off, cs, ho, _, hcl, hcell, hir⟩ := HV.out.at (HT.out.below HSB.out hB) hx
      subst ho
      obtain ⟨rfl, hxi⟩ := hir
      have e0 := hcell 0 _ rfl
      simp only [Nat.add_zero, Nat.mul_one] at e0
      have HTK := Lib.hid (show v.take (j + 1) = v.take j ++ [x] by rw [List.take_add_one, hx]; rfl)
      have HI := Lib.hid hxi
      have c5 := HA.out.box.cell 5 rfl
      have cl := HA.out.box.lt
      have HNB := Lib.hid (newB_snoc (x := x) HA.out.new)
      have hrm := HA.out.room
      have HBAD := Lib.hid (fun (h : Trm.newB (fun _ => false) (l ++ v.take j ++ [x]) = false) => show r = false from by
        have h2 := newB_prefix (m := v.drop (j + 1)) h
        have e : l ++ v.take j ++ [x] ++ v.drop (j + 1) = l ++ v := by rw [List.append_assoc l, ← HTK.out, List.append_assoc, List.take_append_drop]
        rw [e] at h2
        rw [← HR.out, h2])
      clear hx hcell hxi
      by_cases hx0 : x < 0
      · obtain rfl : r = false := HBAD.out (by rw [HNB.out, decide_eq_false (by omega)]; rfl)
        go_wp2_with fail
        go_ret
        exact ⟨rfl, HT.out, fun h => by simp at h, fun _ => HA.out.bad⟩
      · have fx0 : decide (x < 0) = false := decide_eq_false hx0
        by_cases hx1 : 1000000 < x
        · obtain rfl : r = false := HBAD.out (by rw [HNB.out, decide_eq_false (show ¬ x ≤ 1000000 by omega)]; simp)
          go_wp2_with fail
          go_ret
          exact ⟨rfl, HT.out, fun h => by simp at h, fun _ => HA.out.bad⟩
        · have fx1 : decide (1000000 < x) = false := decide_eq_false hx1
          obtain ⟨q, hq⟩ : ∃ q, setOf (l ++ v.take j) x = q := ⟨_, rfl⟩
          have HLK := Lib.hid HA.out.bound
          have hnb := HNB.out
          rw [hq, decide_eq_true (show 0 ≤ x by omega), decide_eq_true (show x ≤ 1000000 by omega), Bool.true_and, Bool.true_and] at hnb
          cases q with
          | true =>
            obtain rfl : r = false := HBAD.out (by rw [hnb]; rfl)
            go_wp2_with (at_lookup; refine wpList_lookVB rfl _ _ rfl bb _ (setOf (l ++ v.take j)) rfl HLK.out x rfl HI.out ?_; rw [hq])
            go_ret
            exact ⟨rfl, HT.out, fun h => by simp at h, fun _ => HA.out.bad⟩
          | false =>
            have hms : cb ≠ bb := map_box_ne HA.out.bound HA.out.box
            have hmt : cb ≠ sb := map_box_ne HA.out.scope HA.out.box
            have HNX := Lib.hid (show Trm.newB (fun _ => false) (l ++ v.take (j + 1)) = true from by rw [HTK.out, ← List.append_assoc, hnb]; rfl)
            have HQ := Lib.hid hq
            clear hnb HBAD hq HNB
            go_wp2_with (first
              | (at_lookup; refine wpList_lookVB rfl _ _ rfl bb _ (setOf (l ++ v.take j)) rfl HLK.out x rfl HI.out ?_; rw [HQ.out])
              | (refine wpList_entryVB rfl _ _ rfl bb _ (setOf (l ++ v.take j)) rfl HLK.out (by omega) x rfl HI.out ?_; intro w1 v0 st HLD)
              | (refine wpList_storeVB rfl _ _ _ rfl bb _ (setOf (l ++ v.take j)) x _ true HLD rfl rfl rfl ?_; intro w2 hm2 hg2; have HM2 := Lib.hid hm2; have HG2 := Lib.hid hg2; have HS2 := Lib.hid (HA.out.scope.same (hg2.block sb HA.out.scope.lt (fun e => HA.out.ne (by simpa using e.symm)))); clear hm2 hg2)
              | (at_mapUpdate; refine wpList_putVB rfl _ _ _ rfl sb _ (Trm.addV sc (v.take j)) rfl HS2.out (by omega) x true rfl rfl HI.out ?_; intro w3 hm3 hg3; have HM3 := Lib.hid hm3; have HG3 := Lib.hid hg3; clear hm3 hg3))
            have hm3 := HM3.out
            have hg3 := HG3.out
            have HN := Lib.hid (show ChkS w3 cb bb sb nc nk fr size (l ++ v.take (j + 1)) (Trm.addV sc (v.take (j + 1))) from by
              have hne := HA.out.ne
              have hl1 : (l ++ v.take (j + 1)).length = (l ++ v.take j).length + 1 := by rw [HTK.out]; simp only [List.length_append, List.length_cons, List.length_nil]; omega
              refine ⟨(hg3.block cb (Nat.lt_of_lt_of_le HA.out.box.lt HG2.out.size) (fun e => hmt (by simpa using e))).trans ((HG2.out.block cb HA.out.box.lt (fun e => hms (by simpa using e))).trans HA.out.box), ?_, ?_, HNX.out, hne⟩
              · rw [hl1, HTK.out, ← List.append_assoc, setOf_snoc]
                exact HM2.out.same (hg3.block bb HM2.out.lt (fun e => hne (by simpa using e)))
              · rw [hl1, HTK.out, addV_snoc]
                exact hm3)
            have HT3 := Lib.hid (HT.out.next ((Turned.grown (S := S3 cb bb sb) HG2.out (fun b hb => .inr (.inl (by simpa using hb.symm)))).next (Turned.grown hg3 (fun b hb => .inr (.inr (by simpa using hb.symm))))))
            clear hm3 hg3
            go_roundg (lv - (j + 1))
            case measure => omega
            case rel => exact ⟨j + 1, rfl, by go_num, by omega, HN, HT3⟩
    · obtain rfl : j = lv := by omega
      have HE := Lib.hid (show v.take j = v from List.take_of_length_le (by rw [← HL.out]; exact Nat.le_refl _))
      obtain rfl : r = true := by
        have := HA.out.new
        rw [HE.out] at this
        rw [← HR.out, this]
      go_wp2_with fail
      go_ret
      exact ⟨rfl, HT.out, fun _ => by rw [← HE.out]; simpa using HA.out, fun h => by simp at h⟩
end Go.Proofs.YtigkhmppnnljiaaGreatDoor

namespace Go.Proofs.YtigkhmppnnljiaaGreatDoor
open Go Go.RowKit

set_option maxHeartbeats 2000000 in
set_option maxRecDepth 100000 in
theorem number_0 (cb sb bb m : Nat) (nc nk size n : Int) (fr : Bool) (sc : Int → Bool) (ov ot : Option Addr) (lv cv lt ct : Nat) (w : World) (hn : I64 n) (hc : BoxL w cb 103 [.int .i64 3, .int .i64 nc, .int .i64 nk, .bool fr, .int .i64 size, .map (some bb)]) (hm : MapVB w sb m sc) (r : Bool) (hr : Trm.numberB nc nk fr sc 0 n = r) :
    Calls Tryz.prog 102 #[.pointer (some ⟨cb, 0, none⟩), .agg #[.int .i64 0, .int .i64 n, .slice ov lv cv, .slice ot lt ct], .map (some sb)] w fun e w' => e = .returned (.bool r) ∧ Below w.heap.size w w' := by
  have hb : Below w.heap.size w (w.alloc (.cells #[.int .i64 0, .int .i64 n, .slice ov lv cv, .slice ot lt ct] 41)) := Below.one w _
  have HB := Lib.hid hb
  have HR := Lib.hid hr
  have c1 := hc.cell 1 rfl
  have c2 := hc.cell 2 rfl
  have c3 := hc.cell 3 rfl
  have cl := hc.lt
  have HM := Lib.hid hm
  have HN := Lib.hid hn
  clear hb hr hc hm hn
  by_cases h0 : 0 ≤ n
  · by_cases h1 : n < nc
    · obtain rfl : true = r := by rw [← HR.out]; simp [Trm.numberB, h0, h1]
      go_enter Tryz.func102, Tryz.ntmps102
      go_upto_region 3 with fail
      go_region
      all_goals (go_wp2_with fail; go_ret; first | exact ⟨rfl, HB.out⟩ | exact ⟨rfl, Below.drewN HB.out 1⟩ | exact ⟨rfl, Below.drewN HB.out _⟩)
    · obtain rfl : false = r := by rw [← HR.out]; simp [Trm.numberB, h1]
      have f1 : decide (n < nc) = false := decide_eq_false h1
      clear h1
      go_enter Tryz.func102, Tryz.ntmps102
      go_upto_region 3 with fail
      go_region
      all_goals (go_wp2_with fail; go_ret; first | exact ⟨rfl, HB.out⟩ | exact ⟨rfl, Below.drewN HB.out 1⟩ | exact ⟨rfl, Below.drewN HB.out _⟩)
  · obtain rfl : false = r := by rw [← HR.out]; simp [Trm.numberB, h0]
    have f0 : decide (0 ≤ n) = false := decide_eq_false h0
    clear h0
    go_enter Tryz.func102, Tryz.ntmps102
    go_upto_region 3 with fail
    go_region
    all_goals (go_wp2_with fail; go_ret; first | exact ⟨rfl, HB.out⟩ | exact ⟨rfl, Below.drewN HB.out 1⟩ | exact ⟨rfl, Below.drewN HB.out _⟩)
set_option maxHeartbeats 2000000 in
set_option maxRecDepth 100000 in
theorem number_1 (cb sb bb m : Nat) (nc nk size n : Int) (fr : Bool) (sc : Int → Bool) (ov ot : Option Addr) (lv cv lt ct : Nat) (w : World) (hn : I64 n) (hc : BoxL w cb 103 [.int .i64 3, .int .i64 nc, .int .i64 nk, .bool fr, .int .i64 size, .map (some bb)]) (hm : MapVB w sb m sc) (r : Bool) (hr : Trm.numberB nc nk fr sc 1 n = r) :
    Calls Tryz.prog 102 #[.pointer (some ⟨cb, 0, none⟩), .agg #[.int .i64 1, .int .i64 n, .slice ov lv cv, .slice ot lt ct], .map (some sb)] w fun e w' => e = .returned (.bool r) ∧ Below w.heap.size w w' := by
  have hb : Below w.heap.size w (w.alloc (.cells #[.int .i64 1, .int .i64 n, .slice ov lv cv, .slice ot lt ct] 41)) := Below.one w _
  have HB := Lib.hid hb
  have HR := Lib.hid hr
  have c1 := hc.cell 1 rfl
  have c2 := hc.cell 2 rfl
  have c3 := hc.cell 3 rfl
  have cl := hc.lt
  have HM := Lib.hid hm
  have HN := Lib.hid hn
  clear hb hr hc hm hn
  obtain rfl : sc n = r := by rw [← HR.out]; simp [Trm.numberB]
  go_enter Tryz.func102, Tryz.ntmps102
  go_wp2_with (at_lookup; refine wpList_lookVB rfl _ _ rfl sb m sc rfl (HM.out.keep HB.out) n rfl HN.out ?_)
  go_wp2_with fail
  go_ret
  exact ⟨rfl, HB.out⟩
set_option maxHeartbeats 2000000 in
set_option maxRecDepth 100000 in
theorem number_10 (cb sb bb m : Nat) (nc nk size n : Int) (fr : Bool) (sc : Int → Bool) (ov ot : Option Addr) (lv cv lt ct : Nat) (w : World) (hn : I64 n) (hc : BoxL w cb 103 [.int .i64 3, .int .i64 nc, .int .i64 nk, .bool fr, .int .i64 size, .map (some bb)]) (hm : MapVB w sb m sc) (r : Bool) (hr : Trm.numberB nc nk fr sc 10 n = r) :
    Calls Tryz.prog 102 #[.pointer (some ⟨cb, 0, none⟩), .agg #[.int .i64 10, .int .i64 n, .slice ov lv cv, .slice ot lt ct], .map (some sb)] w fun e w' => e = .returned (.bool r) ∧ Below w.heap.size w w' := by
  have hb : Below w.heap.size w (w.alloc (.cells #[.int .i64 10, .int .i64 n, .slice ov lv cv, .slice ot lt ct] 41)) := Below.one w _
  have HB := Lib.hid hb
  have HR := Lib.hid hr
  have c1 := hc.cell 1 rfl
  have c2 := hc.cell 2 rfl
  have c3 := hc.cell 3 rfl
  have cl := hc.lt
  have HM := Lib.hid hm
  have HN := Lib.hid hn
  clear hb hr hc hm hn
  obtain ⟨⟨f0, f1, f2, f3, f4⟩, hf⟩ : ∃ f, Prims.facts n = f := ⟨_, rfl⟩
  obtain ⟨b, hb⟩ : ∃ b, Prims.has n = b := ⟨_, rfl⟩
  have HC := Lib.hid (fun W => facts_to n f0 f1 f2 f3 f4 b hf hb HN.out.1 HN.out.2 W)
  obtain rfl : b = r := by rw [← HR.out, ← hb, Prims.has, Bool.eq_iff_iff]; simp [Trm.numberB]; omega
  clear hf hb
  go_enter Tryz.func102, Tryz.ntmps102
  go_wp2_with fail
  refine (HC.out _).mono ?_
  rintro e w1 ⟨rfl, hb1⟩
  have HB1 := Lib.hid (Below.next HB.out hb1)
  clear hb1 HC
  go_wp2_with fail
  go_ret
  exact ⟨rfl, HB1.out.alloc (by have := HB1.out.size; omega) _⟩
set_option maxHeartbeats 2000000 in
set_option maxRecDepth 100000 in
theorem number_11 (cb sb bb m : Nat) (nc nk size n : Int) (fr : Bool) (sc : Int → Bool) (ov ot : Option Addr) (lv cv lt ct : Nat) (w : World) (hn : I64 n) (hc : BoxL w cb 103 [.int .i64 3, .int .i64 nc, .int .i64 nk, .bool fr, .int .i64 size, .map (some bb)]) (hm : MapVB w sb m sc) (r : Bool) (hr : Trm.numberB nc nk fr sc 11 n = r) :
    Calls Tryz.prog 102 #[.pointer (some ⟨cb, 0, none⟩), .agg #[.int .i64 11, .int .i64 n, .slice ov lv cv, .slice ot lt ct], .map (some sb)] w fun e w' => e = .returned (.bool r) ∧ Below w.heap.size w w' := by
  have hb : Below w.heap.size w (w.alloc (.cells #[.int .i64 11, .int .i64 n, .slice ov lv cv, .slice ot lt ct] 41)) := Below.one w _
  have HB := Lib.hid hb
  have HR := Lib.hid hr
  have c1 := hc.cell 1 rfl
  have c2 := hc.cell 2 rfl
  have c3 := hc.cell 3 rfl
  have cl := hc.lt
  have HM := Lib.hid hm
  have HN := Lib.hid hn
  clear hb hr hc hm hn
  obtain ⟨⟨f0, f1, f2, f3, f4⟩, hf⟩ : ∃ f, Prims.facts n = f := ⟨_, rfl⟩
  obtain ⟨b, hb⟩ : ∃ b, Prims.has n = b := ⟨_, rfl⟩
  have HC := Lib.hid (fun W => facts_to n f0 f1 f2 f3 f4 b hf hb HN.out.1 HN.out.2 W)
  obtain rfl : b = r := by rw [← HR.out, ← hb, Prims.has, Bool.eq_iff_iff]; simp [Trm.numberB]; omega
  clear hf hb
  go_enter Tryz.func102, Tryz.ntmps102
  go_wp2_with fail
  refine (HC.out _).mono ?_
  rintro e w1 ⟨rfl, hb1⟩
  have HB1 := Lib.hid (Below.next HB.out hb1)
  clear hb1 HC
  go_wp2_with fail
  go_ret
  exact ⟨rfl, HB1.out.alloc (by have := HB1.out.size; omega) _⟩
set_option maxHeartbeats 2000000 in
set_option maxRecDepth 100000 in
theorem number_19 (cb sb bb m : Nat) (nc nk size n : Int) (fr : Bool) (sc : Int → Bool) (ov ot : Option Addr) (lv cv lt ct : Nat) (w : World) (hn : I64 n) (hc : BoxL w cb 103 [.int .i64 3, .int .i64 nc, .int .i64 nk, .bool fr, .int .i64 size, .map (some bb)]) (hm : MapVB w sb m sc) (r : Bool) (hr : Trm.numberB nc nk fr sc 19 n = r) :
    Calls Tryz.prog 102 #[.pointer (some ⟨cb, 0, none⟩), .agg #[.int .i64 19, .int .i64 n, .slice ov lv cv, .slice ot lt ct], .map (some sb)] w fun e w' => e = .returned (.bool r) ∧ Below w.heap.size w w' := by
  have hb : Below w.heap.size w (w.alloc (.cells #[.int .i64 19, .int .i64 n, .slice ov lv cv, .slice ot lt ct] 41)) := Below.one w _
  have HB := Lib.hid hb
  have HR := Lib.hid hr
  have c1 := hc.cell 1 rfl
  have c2 := hc.cell 2 rfl
  have c3 := hc.cell 3 rfl
  have cl := hc.lt
  have HM := Lib.hid hm
  have HN := Lib.hid hn
  clear hb hr hc hm hn
  by_cases h0 : 0 ≤ n
  · by_cases h1 : n < nk
    · obtain rfl : true = r := by rw [← HR.out]; simp [Trm.numberB, h0, h1]
      go_enter Tryz.func102, Tryz.ntmps102
      go_upto_region 19 with fail
      go_region
      all_goals (go_wp2_with fail; go_ret; first | exact ⟨rfl, HB.out⟩ | exact ⟨rfl, Below.drewN HB.out 1⟩ | exact ⟨rfl, Below.drewN HB.out _⟩)
    · obtain rfl : false = r := by rw [← HR.out]; simp [Trm.numberB, h1]
      have f1 : decide (n < nk) = false := decide_eq_false h1
      clear h1
      go_enter Tryz.func102, Tryz.ntmps102
      go_upto_region 19 with fail
      go_region
      all_goals (go_wp2_with fail; go_ret; first | exact ⟨rfl, HB.out⟩ | exact ⟨rfl, Below.drewN HB.out 1⟩ | exact ⟨rfl, Below.drewN HB.out _⟩)
  · obtain rfl : false = r := by rw [← HR.out]; simp [Trm.numberB, h0]
    have f0 : decide (0 ≤ n) = false := decide_eq_false h0
    clear h0
    go_enter Tryz.func102, Tryz.ntmps102
    go_upto_region 19 with fail
    go_region
    all_goals (go_wp2_with fail; go_ret; first | exact ⟨rfl, HB.out⟩ | exact ⟨rfl, Below.drewN HB.out 1⟩ | exact ⟨rfl, Below.drewN HB.out _⟩)
set_option maxHeartbeats 2000000 in
set_option maxRecDepth 100000 in
theorem number_21 (cb sb bb m : Nat) (nc nk size n : Int) (fr : Bool) (sc : Int → Bool) (ov ot : Option Addr) (lv cv lt ct : Nat) (w : World) (hn : I64 n) (hc : BoxL w cb 103 [.int .i64 3, .int .i64 nc, .int .i64 nk, .bool fr, .int .i64 size, .map (some bb)]) (hm : MapVB w sb m sc) (r : Bool) (hr : Trm.numberB nc nk fr sc 21 n = r) :
    Calls Tryz.prog 102 #[.pointer (some ⟨cb, 0, none⟩), .agg #[.int .i64 21, .int .i64 n, .slice ov lv cv, .slice ot lt ct], .map (some sb)] w fun e w' => e = .returned (.bool r) ∧ Below w.heap.size w w' := by
  have hb : Below w.heap.size w (w.alloc (.cells #[.int .i64 21, .int .i64 n, .slice ov lv cv, .slice ot lt ct] 41)) := Below.one w _
  have HB := Lib.hid hb
  have HR := Lib.hid hr
  have c1 := hc.cell 1 rfl
  have c2 := hc.cell 2 rfl
  have c3 := hc.cell 3 rfl
  have cl := hc.lt
  have HM := Lib.hid hm
  have HN := Lib.hid hn
  clear hb hr hc hm hn
  by_cases h0 : 0 ≤ n
  · by_cases h1 : n < nk
    · obtain rfl : true = r := by rw [← HR.out]; simp [Trm.numberB, h0, h1]
      go_enter Tryz.func102, Tryz.ntmps102
      go_upto_region 19 with fail
      go_region
      all_goals (go_wp2_with fail; go_ret; first | exact ⟨rfl, HB.out⟩ | exact ⟨rfl, Below.drewN HB.out 1⟩ | exact ⟨rfl, Below.drewN HB.out _⟩)
    · obtain rfl : false = r := by rw [← HR.out]; simp [Trm.numberB, h1]
      have f1 : decide (n < nk) = false := decide_eq_false h1
      clear h1
      go_enter Tryz.func102, Tryz.ntmps102
      go_upto_region 19 with fail
      go_region
      all_goals (go_wp2_with fail; go_ret; first | exact ⟨rfl, HB.out⟩ | exact ⟨rfl, Below.drewN HB.out 1⟩ | exact ⟨rfl, Below.drewN HB.out _⟩)
  · obtain rfl : false = r := by rw [← HR.out]; simp [Trm.numberB, h0]
    have f0 : decide (0 ≤ n) = false := decide_eq_false h0
    clear h0
    go_enter Tryz.func102, Tryz.ntmps102
    go_upto_region 19 with fail
    go_region
    all_goals (go_wp2_with fail; go_ret; first | exact ⟨rfl, HB.out⟩ | exact ⟨rfl, Below.drewN HB.out 1⟩ | exact ⟨rfl, Below.drewN HB.out _⟩)
set_option maxHeartbeats 2000000 in
set_option maxRecDepth 100000 in
theorem number_22 (cb sb bb m : Nat) (nc nk size n : Int) (fr : Bool) (sc : Int → Bool) (ov ot : Option Addr) (lv cv lt ct : Nat) (w : World) (hn : I64 n) (hc : BoxL w cb 103 [.int .i64 3, .int .i64 nc, .int .i64 nk, .bool fr, .int .i64 size, .map (some bb)]) (hm : MapVB w sb m sc) (r : Bool) (hr : Trm.numberB nc nk fr sc 22 n = r) :
    Calls Tryz.prog 102 #[.pointer (some ⟨cb, 0, none⟩), .agg #[.int .i64 22, .int .i64 n, .slice ov lv cv, .slice ot lt ct], .map (some sb)] w fun e w' => e = .returned (.bool r) ∧ Below w.heap.size w w' := by
  have hb : Below w.heap.size w (w.alloc (.cells #[.int .i64 22, .int .i64 n, .slice ov lv cv, .slice ot lt ct] 41)) := Below.one w _
  have HB := Lib.hid hb
  have HR := Lib.hid hr
  have c1 := hc.cell 1 rfl
  have c2 := hc.cell 2 rfl
  have c3 := hc.cell 3 rfl
  have cl := hc.lt
  have HM := Lib.hid hm
  have HN := Lib.hid hn
  clear hb hr hc hm hn
  by_cases h0 : 0 ≤ n
  · by_cases h1 : n < nk
    · obtain rfl : true = r := by rw [← HR.out]; simp [Trm.numberB, h0, h1]
      go_enter Tryz.func102, Tryz.ntmps102
      go_upto_region 19 with fail
      go_region
      all_goals (go_wp2_with fail; go_ret; first | exact ⟨rfl, HB.out⟩ | exact ⟨rfl, Below.drewN HB.out 1⟩ | exact ⟨rfl, Below.drewN HB.out _⟩)
    · obtain rfl : false = r := by rw [← HR.out]; simp [Trm.numberB, h1]
      have f1 : decide (n < nk) = false := decide_eq_false h1
      clear h1
      go_enter Tryz.func102, Tryz.ntmps102
      go_upto_region 19 with fail
      go_region
      all_goals (go_wp2_with fail; go_ret; first | exact ⟨rfl, HB.out⟩ | exact ⟨rfl, Below.drewN HB.out 1⟩ | exact ⟨rfl, Below.drewN HB.out _⟩)
  · obtain rfl : false = r := by rw [← HR.out]; simp [Trm.numberB, h0]
    have f0 : decide (0 ≤ n) = false := decide_eq_false h0
    clear h0
    go_enter Tryz.func102, Tryz.ntmps102
    go_upto_region 19 with fail
    go_region
    all_goals (go_wp2_with fail; go_ret; first | exact ⟨rfl, HB.out⟩ | exact ⟨rfl, Below.drewN HB.out 1⟩ | exact ⟨rfl, Below.drewN HB.out _⟩)
set_option maxHeartbeats 2000000 in
set_option maxRecDepth 100000 in
theorem number_20 (cb sb bb m : Nat) (nc nk size n : Int) (fr : Bool) (sc : Int → Bool) (ov ot : Option Addr) (lv cv lt ct : Nat) (w : World) (hn : I64 n) (hc : BoxL w cb 103 [.int .i64 3, .int .i64 nc, .int .i64 nk, .bool fr, .int .i64 size, .map (some bb)]) (hm : MapVB w sb m sc) (r : Bool) (hr : Trm.numberB nc nk fr sc 20 n = r) :
    Calls Tryz.prog 102 #[.pointer (some ⟨cb, 0, none⟩), .agg #[.int .i64 20, .int .i64 n, .slice ov lv cv, .slice ot lt ct], .map (some sb)] w fun e w' => e = .returned (.bool r) ∧ Below w.heap.size w w' := by
  have hb : Below w.heap.size w (w.alloc (.cells #[.int .i64 20, .int .i64 n, .slice ov lv cv, .slice ot lt ct] 41)) := Below.one w _
  have HB := Lib.hid hb
  have HR := Lib.hid hr
  have c1 := hc.cell 1 rfl
  have c2 := hc.cell 2 rfl
  have c3 := hc.cell 3 rfl
  have cl := hc.lt
  have HM := Lib.hid hm
  have HN := Lib.hid hn
  clear hb hr hc hm hn
  by_cases h0 : 0 ≤ n
  · obtain rfl : fr = r := by rw [← HR.out]; simp [Trm.numberB, h0]
    go_enter Tryz.func102, Tryz.ntmps102
    go_wp2_with fail
    go_ret
    exact ⟨rfl, HB.out⟩
  · obtain rfl : false = r := by rw [← HR.out]; simp [Trm.numberB, h0]
    have f0 : decide (0 ≤ n) = false := decide_eq_false h0
    clear h0
    go_enter Tryz.func102, Tryz.ntmps102
    go_wp2_with fail
    go_ret
    exact ⟨rfl, HB.out⟩
set_option maxHeartbeats 2000000 in
set_option maxRecDepth 100000 in
theorem number_3 (cb sb bb m : Nat) (nc nk size n : Int) (fr : Bool) (sc : Int → Bool) (ov ot : Option Addr) (lv cv lt ct : Nat) (w : World) (hn : I64 n) (hc : BoxL w cb 103 [.int .i64 3, .int .i64 nc, .int .i64 nk, .bool fr, .int .i64 size, .map (some bb)]) (hm : MapVB w sb m sc) (r : Bool) (hr : Trm.numberB nc nk fr sc 3 n = r) :
    Calls Tryz.prog 102 #[.pointer (some ⟨cb, 0, none⟩), .agg #[.int .i64 3, .int .i64 n, .slice ov lv cv, .slice ot lt ct], .map (some sb)] w fun e w' => e = .returned (.bool r) ∧ Below w.heap.size w w' := by
  have hb : Below w.heap.size w (w.alloc (.cells #[.int .i64 3, .int .i64 n, .slice ov lv cv, .slice ot lt ct] 41)) := Below.one w _
  have HB := Lib.hid hb
  have HR := Lib.hid hr
  have c1 := hc.cell 1 rfl
  have c2 := hc.cell 2 rfl
  have c3 := hc.cell 3 rfl
  have cl := hc.lt
  have HM := Lib.hid hm
  have HN := Lib.hid hn
  clear hb hr hc hm hn
  by_cases h0 : n = 0
  · subst h0
    obtain rfl : true = r := by rw [← HR.out]; simp [Trm.numberB]
    go_enter Tryz.func102, Tryz.ntmps102
    go_wp2_with fail
    go_ret
    exact ⟨rfl, HB.out⟩
  · obtain rfl : false = r := by rw [← HR.out]; simp [Trm.numberB, h0]
    have f0 : (n == 0) = false := by simpa using h0
    clear h0
    go_enter Tryz.func102, Tryz.ntmps102
    go_wp2_with fail
    go_ret
    exact ⟨rfl, HB.out⟩
set_option maxHeartbeats 2000000 in
set_option maxRecDepth 100000 in
theorem number_5 (cb sb bb m : Nat) (nc nk size n : Int) (fr : Bool) (sc : Int → Bool) (ov ot : Option Addr) (lv cv lt ct : Nat) (w : World) (hn : I64 n) (hc : BoxL w cb 103 [.int .i64 3, .int .i64 nc, .int .i64 nk, .bool fr, .int .i64 size, .map (some bb)]) (hm : MapVB w sb m sc) (r : Bool) (hr : Trm.numberB nc nk fr sc 5 n = r) :
    Calls Tryz.prog 102 #[.pointer (some ⟨cb, 0, none⟩), .agg #[.int .i64 5, .int .i64 n, .slice ov lv cv, .slice ot lt ct], .map (some sb)] w fun e w' => e = .returned (.bool r) ∧ Below w.heap.size w w' := by
  have hb : Below w.heap.size w (w.alloc (.cells #[.int .i64 5, .int .i64 n, .slice ov lv cv, .slice ot lt ct] 41)) := Below.one w _
  have HB := Lib.hid hb
  have HR := Lib.hid hr
  have c1 := hc.cell 1 rfl
  have c2 := hc.cell 2 rfl
  have c3 := hc.cell 3 rfl
  have cl := hc.lt
  have HM := Lib.hid hm
  have HN := Lib.hid hn
  clear hb hr hc hm hn
  by_cases h0 : n = 0
  · subst h0
    obtain rfl : true = r := by rw [← HR.out]; simp [Trm.numberB]
    go_enter Tryz.func102, Tryz.ntmps102
    go_wp2_with fail
    go_ret
    exact ⟨rfl, HB.out⟩
  · obtain rfl : false = r := by rw [← HR.out]; simp [Trm.numberB, h0]
    have f0 : (n == 0) = false := by simpa using h0
    clear h0
    go_enter Tryz.func102, Tryz.ntmps102
    go_wp2_with fail
    go_ret
    exact ⟨rfl, HB.out⟩
set_option maxHeartbeats 2000000 in
set_option maxRecDepth 100000 in
theorem number_6 (cb sb bb m : Nat) (nc nk size n : Int) (fr : Bool) (sc : Int → Bool) (ov ot : Option Addr) (lv cv lt ct : Nat) (w : World) (hn : I64 n) (hc : BoxL w cb 103 [.int .i64 3, .int .i64 nc, .int .i64 nk, .bool fr, .int .i64 size, .map (some bb)]) (hm : MapVB w sb m sc) (r : Bool) (hr : Trm.numberB nc nk fr sc 6 n = r) :
    Calls Tryz.prog 102 #[.pointer (some ⟨cb, 0, none⟩), .agg #[.int .i64 6, .int .i64 n, .slice ov lv cv, .slice ot lt ct], .map (some sb)] w fun e w' => e = .returned (.bool r) ∧ Below w.heap.size w w' := by
  have hb : Below w.heap.size w (w.alloc (.cells #[.int .i64 6, .int .i64 n, .slice ov lv cv, .slice ot lt ct] 41)) := Below.one w _
  have HB := Lib.hid hb
  have HR := Lib.hid hr
  have c1 := hc.cell 1 rfl
  have c2 := hc.cell 2 rfl
  have c3 := hc.cell 3 rfl
  have cl := hc.lt
  have HM := Lib.hid hm
  have HN := Lib.hid hn
  clear hb hr hc hm hn
  by_cases h0 : n = 0
  · subst h0
    obtain rfl : true = r := by rw [← HR.out]; simp [Trm.numberB]
    go_enter Tryz.func102, Tryz.ntmps102
    go_wp2_with fail
    go_ret
    exact ⟨rfl, HB.out⟩
  · obtain rfl : false = r := by rw [← HR.out]; simp [Trm.numberB, h0]
    have f0 : (n == 0) = false := by simpa using h0
    clear h0
    go_enter Tryz.func102, Tryz.ntmps102
    go_wp2_with fail
    go_ret
    exact ⟨rfl, HB.out⟩
set_option maxHeartbeats 2000000 in
set_option maxRecDepth 100000 in
theorem number_8 (cb sb bb m : Nat) (nc nk size n : Int) (fr : Bool) (sc : Int → Bool) (ov ot : Option Addr) (lv cv lt ct : Nat) (w : World) (hn : I64 n) (hc : BoxL w cb 103 [.int .i64 3, .int .i64 nc, .int .i64 nk, .bool fr, .int .i64 size, .map (some bb)]) (hm : MapVB w sb m sc) (r : Bool) (hr : Trm.numberB nc nk fr sc 8 n = r) :
    Calls Tryz.prog 102 #[.pointer (some ⟨cb, 0, none⟩), .agg #[.int .i64 8, .int .i64 n, .slice ov lv cv, .slice ot lt ct], .map (some sb)] w fun e w' => e = .returned (.bool r) ∧ Below w.heap.size w w' := by
  have hb : Below w.heap.size w (w.alloc (.cells #[.int .i64 8, .int .i64 n, .slice ov lv cv, .slice ot lt ct] 41)) := Below.one w _
  have HB := Lib.hid hb
  have HR := Lib.hid hr
  have c1 := hc.cell 1 rfl
  have c2 := hc.cell 2 rfl
  have c3 := hc.cell 3 rfl
  have cl := hc.lt
  have HM := Lib.hid hm
  have HN := Lib.hid hn
  clear hb hr hc hm hn
  by_cases h0 : n = 0
  · subst h0
    obtain rfl : true = r := by rw [← HR.out]; simp [Trm.numberB]
    go_enter Tryz.func102, Tryz.ntmps102
    go_wp2_with fail
    go_ret
    exact ⟨rfl, HB.out⟩
  · obtain rfl : false = r := by rw [← HR.out]; simp [Trm.numberB, h0]
    have f0 : (n == 0) = false := by simpa using h0
    clear h0
    go_enter Tryz.func102, Tryz.ntmps102
    go_wp2_with fail
    go_ret
    exact ⟨rfl, HB.out⟩
set_option maxHeartbeats 2000000 in
set_option maxRecDepth 100000 in
theorem number_9 (cb sb bb m : Nat) (nc nk size n : Int) (fr : Bool) (sc : Int → Bool) (ov ot : Option Addr) (lv cv lt ct : Nat) (w : World) (hn : I64 n) (hc : BoxL w cb 103 [.int .i64 3, .int .i64 nc, .int .i64 nk, .bool fr, .int .i64 size, .map (some bb)]) (hm : MapVB w sb m sc) (r : Bool) (hr : Trm.numberB nc nk fr sc 9 n = r) :
    Calls Tryz.prog 102 #[.pointer (some ⟨cb, 0, none⟩), .agg #[.int .i64 9, .int .i64 n, .slice ov lv cv, .slice ot lt ct], .map (some sb)] w fun e w' => e = .returned (.bool r) ∧ Below w.heap.size w w' := by
  have hb : Below w.heap.size w (w.alloc (.cells #[.int .i64 9, .int .i64 n, .slice ov lv cv, .slice ot lt ct] 41)) := Below.one w _
  have HB := Lib.hid hb
  have HR := Lib.hid hr
  have c1 := hc.cell 1 rfl
  have c2 := hc.cell 2 rfl
  have c3 := hc.cell 3 rfl
  have cl := hc.lt
  have HM := Lib.hid hm
  have HN := Lib.hid hn
  clear hb hr hc hm hn
  by_cases h0 : n = 0
  · subst h0
    obtain rfl : true = r := by rw [← HR.out]; simp [Trm.numberB]
    go_enter Tryz.func102, Tryz.ntmps102
    go_wp2_with fail
    go_ret
    exact ⟨rfl, HB.out⟩
  · obtain rfl : false = r := by rw [← HR.out]; simp [Trm.numberB, h0]
    have f0 : (n == 0) = false := by simpa using h0
    clear h0
    go_enter Tryz.func102, Tryz.ntmps102
    go_wp2_with fail
    go_ret
    exact ⟨rfl, HB.out⟩
set_option maxHeartbeats 2000000 in
set_option maxRecDepth 100000 in
theorem number_12 (cb sb bb m : Nat) (nc nk size n : Int) (fr : Bool) (sc : Int → Bool) (ov ot : Option Addr) (lv cv lt ct : Nat) (w : World) (hn : I64 n) (hc : BoxL w cb 103 [.int .i64 3, .int .i64 nc, .int .i64 nk, .bool fr, .int .i64 size, .map (some bb)]) (hm : MapVB w sb m sc) (r : Bool) (hr : Trm.numberB nc nk fr sc 12 n = r) :
    Calls Tryz.prog 102 #[.pointer (some ⟨cb, 0, none⟩), .agg #[.int .i64 12, .int .i64 n, .slice ov lv cv, .slice ot lt ct], .map (some sb)] w fun e w' => e = .returned (.bool r) ∧ Below w.heap.size w w' := by
  have hb : Below w.heap.size w (w.alloc (.cells #[.int .i64 12, .int .i64 n, .slice ov lv cv, .slice ot lt ct] 41)) := Below.one w _
  have HB := Lib.hid hb
  have HR := Lib.hid hr
  have c1 := hc.cell 1 rfl
  have c2 := hc.cell 2 rfl
  have c3 := hc.cell 3 rfl
  have cl := hc.lt
  have HM := Lib.hid hm
  have HN := Lib.hid hn
  clear hb hr hc hm hn
  by_cases h0 : n = 0
  · subst h0
    obtain rfl : true = r := by rw [← HR.out]; simp [Trm.numberB]
    go_enter Tryz.func102, Tryz.ntmps102
    go_wp2_with fail
    go_ret
    exact ⟨rfl, HB.out⟩
  · obtain rfl : false = r := by rw [← HR.out]; simp [Trm.numberB, h0]
    have f0 : (n == 0) = false := by simpa using h0
    clear h0
    go_enter Tryz.func102, Tryz.ntmps102
    go_wp2_with fail
    go_ret
    exact ⟨rfl, HB.out⟩
set_option maxHeartbeats 2000000 in
set_option maxRecDepth 100000 in
theorem number_13 (cb sb bb m : Nat) (nc nk size n : Int) (fr : Bool) (sc : Int → Bool) (ov ot : Option Addr) (lv cv lt ct : Nat) (w : World) (hn : I64 n) (hc : BoxL w cb 103 [.int .i64 3, .int .i64 nc, .int .i64 nk, .bool fr, .int .i64 size, .map (some bb)]) (hm : MapVB w sb m sc) (r : Bool) (hr : Trm.numberB nc nk fr sc 13 n = r) :
    Calls Tryz.prog 102 #[.pointer (some ⟨cb, 0, none⟩), .agg #[.int .i64 13, .int .i64 n, .slice ov lv cv, .slice ot lt ct], .map (some sb)] w fun e w' => e = .returned (.bool r) ∧ Below w.heap.size w w' := by
  have hb : Below w.heap.size w (w.alloc (.cells #[.int .i64 13, .int .i64 n, .slice ov lv cv, .slice ot lt ct] 41)) := Below.one w _
  have HB := Lib.hid hb
  have HR := Lib.hid hr
  have c1 := hc.cell 1 rfl
  have c2 := hc.cell 2 rfl
  have c3 := hc.cell 3 rfl
  have cl := hc.lt
  have HM := Lib.hid hm
  have HN := Lib.hid hn
  clear hb hr hc hm hn
  by_cases h0 : n = 0
  · subst h0
    obtain rfl : true = r := by rw [← HR.out]; simp [Trm.numberB]
    go_enter Tryz.func102, Tryz.ntmps102
    go_wp2_with fail
    go_ret
    exact ⟨rfl, HB.out⟩
  · obtain rfl : false = r := by rw [← HR.out]; simp [Trm.numberB, h0]
    have f0 : (n == 0) = false := by simpa using h0
    clear h0
    go_enter Tryz.func102, Tryz.ntmps102
    go_wp2_with fail
    go_ret
    exact ⟨rfl, HB.out⟩
set_option maxHeartbeats 2000000 in
set_option maxRecDepth 100000 in
theorem number_15 (cb sb bb m : Nat) (nc nk size n : Int) (fr : Bool) (sc : Int → Bool) (ov ot : Option Addr) (lv cv lt ct : Nat) (w : World) (hn : I64 n) (hc : BoxL w cb 103 [.int .i64 3, .int .i64 nc, .int .i64 nk, .bool fr, .int .i64 size, .map (some bb)]) (hm : MapVB w sb m sc) (r : Bool) (hr : Trm.numberB nc nk fr sc 15 n = r) :
    Calls Tryz.prog 102 #[.pointer (some ⟨cb, 0, none⟩), .agg #[.int .i64 15, .int .i64 n, .slice ov lv cv, .slice ot lt ct], .map (some sb)] w fun e w' => e = .returned (.bool r) ∧ Below w.heap.size w w' := by
  have hb : Below w.heap.size w (w.alloc (.cells #[.int .i64 15, .int .i64 n, .slice ov lv cv, .slice ot lt ct] 41)) := Below.one w _
  have HB := Lib.hid hb
  have HR := Lib.hid hr
  have c1 := hc.cell 1 rfl
  have c2 := hc.cell 2 rfl
  have c3 := hc.cell 3 rfl
  have cl := hc.lt
  have HM := Lib.hid hm
  have HN := Lib.hid hn
  clear hb hr hc hm hn
  by_cases h0 : n = 0
  · subst h0
    obtain rfl : true = r := by rw [← HR.out]; simp [Trm.numberB]
    go_enter Tryz.func102, Tryz.ntmps102
    go_wp2_with fail
    go_ret
    exact ⟨rfl, HB.out⟩
  · obtain rfl : false = r := by rw [← HR.out]; simp [Trm.numberB, h0]
    have f0 : (n == 0) = false := by simpa using h0
    clear h0
    go_enter Tryz.func102, Tryz.ntmps102
    go_wp2_with fail
    go_ret
    exact ⟨rfl, HB.out⟩
set_option maxHeartbeats 2000000 in
set_option maxRecDepth 100000 in
theorem number_16 (cb sb bb m : Nat) (nc nk size n : Int) (fr : Bool) (sc : Int → Bool) (ov ot : Option Addr) (lv cv lt ct : Nat) (w : World) (hn : I64 n) (hc : BoxL w cb 103 [.int .i64 3, .int .i64 nc, .int .i64 nk, .bool fr, .int .i64 size, .map (some bb)]) (hm : MapVB w sb m sc) (r : Bool) (hr : Trm.numberB nc nk fr sc 16 n = r) :
    Calls Tryz.prog 102 #[.pointer (some ⟨cb, 0, none⟩), .agg #[.int .i64 16, .int .i64 n, .slice ov lv cv, .slice ot lt ct], .map (some sb)] w fun e w' => e = .returned (.bool r) ∧ Below w.heap.size w w' := by
  have hb : Below w.heap.size w (w.alloc (.cells #[.int .i64 16, .int .i64 n, .slice ov lv cv, .slice ot lt ct] 41)) := Below.one w _
  have HB := Lib.hid hb
  have HR := Lib.hid hr
  have c1 := hc.cell 1 rfl
  have c2 := hc.cell 2 rfl
  have c3 := hc.cell 3 rfl
  have cl := hc.lt
  have HM := Lib.hid hm
  have HN := Lib.hid hn
  clear hb hr hc hm hn
  by_cases h0 : n = 0
  · subst h0
    obtain rfl : true = r := by rw [← HR.out]; simp [Trm.numberB]
    go_enter Tryz.func102, Tryz.ntmps102
    go_wp2_with fail
    go_ret
    exact ⟨rfl, HB.out⟩
  · obtain rfl : false = r := by rw [← HR.out]; simp [Trm.numberB, h0]
    have f0 : (n == 0) = false := by simpa using h0
    clear h0
    go_enter Tryz.func102, Tryz.ntmps102
    go_wp2_with fail
    go_ret
    exact ⟨rfl, HB.out⟩
set_option maxHeartbeats 2000000 in
set_option maxRecDepth 100000 in
theorem number_17 (cb sb bb m : Nat) (nc nk size n : Int) (fr : Bool) (sc : Int → Bool) (ov ot : Option Addr) (lv cv lt ct : Nat) (w : World) (hn : I64 n) (hc : BoxL w cb 103 [.int .i64 3, .int .i64 nc, .int .i64 nk, .bool fr, .int .i64 size, .map (some bb)]) (hm : MapVB w sb m sc) (r : Bool) (hr : Trm.numberB nc nk fr sc 17 n = r) :
    Calls Tryz.prog 102 #[.pointer (some ⟨cb, 0, none⟩), .agg #[.int .i64 17, .int .i64 n, .slice ov lv cv, .slice ot lt ct], .map (some sb)] w fun e w' => e = .returned (.bool r) ∧ Below w.heap.size w w' := by
  have hb : Below w.heap.size w (w.alloc (.cells #[.int .i64 17, .int .i64 n, .slice ov lv cv, .slice ot lt ct] 41)) := Below.one w _
  have HB := Lib.hid hb
  have HR := Lib.hid hr
  have c1 := hc.cell 1 rfl
  have c2 := hc.cell 2 rfl
  have c3 := hc.cell 3 rfl
  have cl := hc.lt
  have HM := Lib.hid hm
  have HN := Lib.hid hn
  clear hb hr hc hm hn
  by_cases h0 : n = 0
  · subst h0
    obtain rfl : true = r := by rw [← HR.out]; simp [Trm.numberB]
    go_enter Tryz.func102, Tryz.ntmps102
    go_wp2_with fail
    go_ret
    exact ⟨rfl, HB.out⟩
  · obtain rfl : false = r := by rw [← HR.out]; simp [Trm.numberB, h0]
    have f0 : (n == 0) = false := by simpa using h0
    clear h0
    go_enter Tryz.func102, Tryz.ntmps102
    go_wp2_with fail
    go_ret
    exact ⟨rfl, HB.out⟩
set_option maxHeartbeats 2000000 in
set_option maxRecDepth 100000 in
theorem number_18 (cb sb bb m : Nat) (nc nk size n : Int) (fr : Bool) (sc : Int → Bool) (ov ot : Option Addr) (lv cv lt ct : Nat) (w : World) (hn : I64 n) (hc : BoxL w cb 103 [.int .i64 3, .int .i64 nc, .int .i64 nk, .bool fr, .int .i64 size, .map (some bb)]) (hm : MapVB w sb m sc) (r : Bool) (hr : Trm.numberB nc nk fr sc 18 n = r) :
    Calls Tryz.prog 102 #[.pointer (some ⟨cb, 0, none⟩), .agg #[.int .i64 18, .int .i64 n, .slice ov lv cv, .slice ot lt ct], .map (some sb)] w fun e w' => e = .returned (.bool r) ∧ Below w.heap.size w w' := by
  have hb : Below w.heap.size w (w.alloc (.cells #[.int .i64 18, .int .i64 n, .slice ov lv cv, .slice ot lt ct] 41)) := Below.one w _
  have HB := Lib.hid hb
  have HR := Lib.hid hr
  have c1 := hc.cell 1 rfl
  have c2 := hc.cell 2 rfl
  have c3 := hc.cell 3 rfl
  have cl := hc.lt
  have HM := Lib.hid hm
  have HN := Lib.hid hn
  clear hb hr hc hm hn
  by_cases h0 : n = 0
  · subst h0
    obtain rfl : true = r := by rw [← HR.out]; simp [Trm.numberB]
    go_enter Tryz.func102, Tryz.ntmps102
    go_wp2_with fail
    go_ret
    exact ⟨rfl, HB.out⟩
  · obtain rfl : false = r := by rw [← HR.out]; simp [Trm.numberB, h0]
    have f0 : (n == 0) = false := by simpa using h0
    clear h0
    go_enter Tryz.func102, Tryz.ntmps102
    go_wp2_with fail
    go_ret
    exact ⟨rfl, HB.out⟩
end Go.Proofs.YtigkhmppnnljiaaGreatDoor

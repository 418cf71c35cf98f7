/-
  What the proofs lean on: RefL.
-/
import Derived.Deep.DeepCutAuto
import Derived.Deep.RegionLaw
import Derived.Deep.AppendLies
import Derived.Test.YtigkhmppnnljiaaGreatDoorLsoA10
import Derived.Test.YtigkhmppnnljiaaGreatDoorLsoA11
import Derived.Test.YtigkhmppnnljiaaGreatDoorLsoA17
import Derived.Test.YtigkhmppnnljiaaGreatDoorLsoA21
import Derived.Test.YtigkhmppnnljiaaGreatDoorLsoA22
import Derived.Test.YtigkhmppnnljiaaGreatDoorLsoA23
import Derived.Test.YtigkhmppnnljiaaGreatDoorLsoA29
set_option maxRecDepth 100000
set_option maxHeartbeats 16000000
namespace Go.Proofs.YtigkhmppnnljiaaGreatDoor
section
open Go.RowKit
theorem next16_any (p : Proc) (c0 c1 c2 c3 c4 : Value) (B k : Nat) (x : Ins) (w : World) (hp : ProcR w B p [c0, c1, c2, c3, c4]) (_hB : B ≤ w.heap.size) (hin : Inside p.code) (hx : p.code[k]? = some x) (hk1 : k ≤ 100000) :
  Calls Tryz.prog 148 #[.agg #[c0, c1, c2, c3, c4], .int .i64 k] w fun e w' => ∃ v, e = .returned v ∧ SlC w' w'.heap.size 1 IntR ((Peep.succs x k).map fun (t : Nat) => (t : Int)) v ∧ Below w.heap.size w w' := by
 obtain ⟨args, rest, regs, code, alive⟩ := p
 obtain ⟨sl, al, he, _, _, hsl, hal⟩ := hp
 obtain ⟨oc, m, cc, rfl⟩ := hsl.form
 obtain ⟨oal, lal, cal, rfl⟩ := hal.form
 simp only [List.cons.injEq, and_true] at he
 obtain ⟨rfl, rfl, rfl, rfl, rfl⟩ := he
 dsimp only at hin hx hsl
 have hgs := goes_succs hin hx
 have hkm : k < m := by rw [hsl.lens.1]; exact (List.getElem?_eq_some_iff.1 hx).1
 have hmcap := hsl.lens.2
 obtain ⟨b6, off6, cs6, ho6, hb6B, hcl6, hcell, hins⟩ := hsl.at (Below.refl _ _) hx
 subst ho6
 obtain ⟨SU, hSU⟩ : ∃ SU, (Peep.succs x k).map (fun (t : Nat) => (t : Int)) = SU := ⟨_, rfl⟩
 rw [hSU] at hgs ⊢
 match cs6, hcl6 with
 | [t0, t1, t2, t3, t4], _ =>
  have e0 := hcell 0 _ rfl
  have e1 := hcell 1 _ rfl
  have e2 := hcell 2 _ rfl
  have e3 := hcell 3 _ rfl
  have e4 := hcell 4 _ rfl
  rw [Nat.add_zero] at e0
  obtain ⟨op, d, xa, xb, l⟩ := x
  obtain ⟨sl, he, _, _, hxa, hxb, hsl4⟩ := hins
  obtain ⟨o4, l4, c4', rfl⟩ := hsl4.form
  simp only [List.cons.injEq, and_true] at he
  obtain ⟨rfl, rfl, rfl, rfl, rfl⟩ := he
  dsimp only at hxa hxb
  have hbl6 := cell_lt e0
  have HXA := Lib.hid (show I64 xa from hxa)
  have HXB := Lib.hid (show I64 xb from hxb)
  have HK := Lib.hid (show I64 ((k : Int) + 1) from ⟨by omega, by omega⟩)
  have HGS := Lib.hid hgs
  clear hcell hsl hal hsl4 hx hin hcl6 hgs hSU hxa hxb
  by_cases h15 : op = 15
  ·subst h15
   have HGE := Lib.hid (show SU = [xa] from by rw [← HGS.out]; rfl)
   have HNW := Lib.hid (show SlC (((w.alloc (.cells #[.int .i64 args, .bool rest, .int .i64 regs, .slice (some ⟨b6, off6, none⟩) m cc, .slice oal lal cal] 31)).alloc (.cells #[.int .i64 15, .int .i64 d, .int .i64 xa, .int .i64 xb, .slice o4 l4 c4'] 34)).alloc (.cells [.int .i64 xa].toArray 3)) (((w.alloc (.cells #[.int .i64 args, .bool rest, .int .i64 regs, .slice (some ⟨b6, off6, none⟩) m cc, .slice oal lal cal] 31)).alloc (.cells #[.int .i64 15, .int .i64 d, .int .i64 xa, .int .i64 xb, .slice o4 l4 c4'] 34)).alloc (.cells [.int .i64 xa].toArray 3)).heap.size 1 IntR [xa] (.slice (some ⟨w.heap.size + 1 + 1, 0, none⟩) 1 1) from intsNew (l := [xa]) (by simp) (by simp) 3 (by simp [HXA.out]) 1 rfl (by omega))
   have HBW := Lib.hid (show Below w.heap.size w (((w.alloc (.cells #[.int .i64 args, .bool rest, .int .i64 regs, .slice (some ⟨b6, off6, none⟩) m cc, .slice oal lal cal] 31)).alloc (.cells #[.int .i64 15, .int .i64 d, .int .i64 xa, .int .i64 xb, .slice o4 l4 c4'] 34)).alloc (.cells [.int .i64 xa].toArray 3)) from ((Below.one w _).trans ((Below.one _ _).mono (by simp))).trans ((Below.one _ _).mono (by simp; omega)))
   have HXO := Lib.hid (show BoxL (((w.alloc (.cells #[.int .i64 args, .bool rest, .int .i64 regs, .slice (some ⟨b6, off6, none⟩) m cc, .slice oal lal cal] 31)).alloc (.cells #[.int .i64 15, .int .i64 d, .int .i64 xa, .int .i64 xb, .slice o4 l4 c4'] 34)).alloc (.cells [.int .i64 xa].toArray 3)) (w.heap.size + 1) 34 [.int .i64 15, .int .i64 d, .int .i64 xa, .int .i64 xb, .slice o4 l4 c4'] from (BoxL.new (by simp) _ _).alloc _)
   go_enter Tryz.func148, Tryz.ntmps148
   go_wp2_with (at_builtin; refine wpList_append_ints rfl (.tmp 28) (.tmp 31) rfl w.heap.size _ (.slice none 0 0) [] [xa] rfl (World.ownsRow_nil _ _ _ _) (some ⟨w.heap.size + 1 + 1, 0, none⟩) 1 1 rfl HNW.out (by simp) (by first | (simp; omega) | simp) ?_)
   intro v' w3 hown hgrow
   have HON : Hid (SlC w3 w3.heap.size 1 IntR SU v') := Lib.hid (by rw [HGE.out]; exact rowInts (l := [xa]) hown (by simp [HXA.out]))
   have HB3 := Lib.hid (HBW.out.grown hgrow HBW.out.size (fun g hg => by simp [Value.ownBlock] at hg))
   have bx : BoxL w3 (w.heap.size + 1) 34 [.int .i64 15, .int .i64 d, .int .i64 xa, .int .i64 xb, .slice o4 l4 c4'] := (hgrow.block _ HXO.out.lt (by simp [Value.ownBlock])).trans HXO.out
   have x0 := bx.cell 0 rfl
   have x3 := bx.cell 3 rfl
   have hbxl := bx.lt
   obtain ⟨oo, lo, co, rfl⟩ := HON.out.form
   clear hown hgrow
   go_wp2_with fail
   go_ret
   exact ⟨_, rfl, HON.out, HB3.out⟩
  have f15 : (op == 15) = false := by simpa using h15
  have f15' : (op != 15) = true := by simpa using h15
  by_cases h16 : op = 16
  ·subst h16
   have HGE := Lib.hid (show SU = [(k : Int) + 1, xb] from by rw [← HGS.out]; rfl)
   have HNW := Lib.hid (show SlC (((w.alloc (.cells #[.int .i64 args, .bool rest, .int .i64 regs, .slice (some ⟨b6, off6, none⟩) m cc, .slice oal lal cal] 31)).alloc (.cells #[.int .i64 16, .int .i64 d, .int .i64 xa, .int .i64 xb, .slice o4 l4 c4'] 34)).alloc (.cells [.int .i64 ((k : Int) + 1)].toArray 3)) (((w.alloc (.cells #[.int .i64 args, .bool rest, .int .i64 regs, .slice (some ⟨b6, off6, none⟩) m cc, .slice oal lal cal] 31)).alloc (.cells #[.int .i64 16, .int .i64 d, .int .i64 xa, .int .i64 xb, .slice o4 l4 c4'] 34)).alloc (.cells [.int .i64 ((k : Int) + 1)].toArray 3)).heap.size 1 IntR [((k : Int) + 1)] (.slice (some ⟨w.heap.size + 1 + 1, 0, none⟩) 1 1) from intsNew (l := [((k : Int) + 1)]) (by simp) (by simp) 3 (by simp [HK.out]) 1 rfl (by omega))
   have HBW := Lib.hid (show Below w.heap.size w (((w.alloc (.cells #[.int .i64 args, .bool rest, .int .i64 regs, .slice (some ⟨b6, off6, none⟩) m cc, .slice oal lal cal] 31)).alloc (.cells #[.int .i64 16, .int .i64 d, .int .i64 xa, .int .i64 xb, .slice o4 l4 c4'] 34)).alloc (.cells [.int .i64 ((k : Int) + 1)].toArray 3)) from ((Below.one w _).trans ((Below.one _ _).mono (by simp))).trans ((Below.one _ _).mono (by simp; omega)))
   have HXO := Lib.hid (show BoxL (((w.alloc (.cells #[.int .i64 args, .bool rest, .int .i64 regs, .slice (some ⟨b6, off6, none⟩) m cc, .slice oal lal cal] 31)).alloc (.cells #[.int .i64 16, .int .i64 d, .int .i64 xa, .int .i64 xb, .slice o4 l4 c4'] 34)).alloc (.cells [.int .i64 ((k : Int) + 1)].toArray 3)) (w.heap.size + 1) 34 [.int .i64 16, .int .i64 d, .int .i64 xa, .int .i64 xb, .slice o4 l4 c4'] from (BoxL.new (by simp) _ _).alloc _)
   go_enter Tryz.func148, Tryz.ntmps148
   go_wp2_with (at_builtin; refine wpList_append_ints rfl (.tmp 20) (.tmp 23) rfl (w.heap.size + 1 + 1) _ (.slice none 0 0) [] [(k : Int) + 1] rfl (World.ownsRow_nil _ _ _ _) (some ⟨w.heap.size + 1 + 1, 0, none⟩) 1 1 rfl HNW.out (by simp) (by first | (simp; omega) | simp) ?_)
   intro v1 w30 hown1 hgrow1
   have HOW := Lib.hid hown1
   have HW30a := Lib.hid (HBW.out.grown hgrow1 HBW.out.size (fun g hg => by simp [Value.ownBlock] at hg))
   have HBX3 := Lib.hid (show BoxL w30 (w.heap.size + 1) 34 [.int .i64 16, .int .i64 d, .int .i64 xa, .int .i64 xb, .slice o4 l4 c4'] from (hgrow1.block _ HXO.out.lt (by simp [Value.ownBlock])).trans HXO.out)
   have x0 := HBX3.out.cell 0 rfl
   have x3 := HBX3.out.cell 3 rfl
   have hbxl := HBX3.out.lt
   have hszb := HW30a.out.size
   have HNW2 := Lib.hid (show SlC (w30.alloc (.cells [.int .i64 xb].toArray 3)) (w30.alloc (.cells [.int .i64 xb].toArray 3)).heap.size 1 IntR [xb] (.slice (some ⟨w30.heap.size, 0, none⟩) 1 1) from intsNew (l := [xb]) (by simp) (by simp) 3 (by simp [HXB.out]) 1 rfl (by omega))
   clear hown1 hgrow1 HNW HXO e0 e1 e2 e3 e4
   go_wp2_with (at_builtin; refine wpList_append_ints rfl (.tmp 36) (.tmp 39) rfl (w.heap.size + 1 + 1) _ v1 [(k : Int) + 1] [xb] rfl (HOW.out.alloc _) (some ⟨w30.heap.size, 0, none⟩) 1 1 rfl HNW2.out (by simp) (by first | (simp; omega) | simp) ?_)
   intro v' w3 hown hgrow
   have HON : Hid (SlC w3 w3.heap.size 1 IntR SU v') := Lib.hid (by rw [HGE.out]; exact rowInts (l := [(k : Int) + 1, xb]) hown (by simp [HK.out, HXB.out]))
   have HB3 := Lib.hid ((HW30a.out.trans ((Below.one w30 _).mono hszb)).grown hgrow (by simp; omega) (fun g hg => by have := (HOW.out.lt g hg).1; omega))
   obtain ⟨oo, lo, co, rfl⟩ := HON.out.form
   clear hown hgrow
   go_wp2_with fail
   go_ret
   exact ⟨_, rfl, HON.out, HB3.out⟩
  have f16 : (op == 16) = false := by simpa using h16
  by_cases h19 : op < 19
  ·have f19 : decide (op < 19) = true := decide_eq_true h19
   have HGE := Lib.hid (show SU = [(k : Int) + 1] from by rw [← HGS.out]; simp [goesL, h15, h16]; omega)
   have HNW := Lib.hid (show SlC (((w.alloc (.cells #[.int .i64 args, .bool rest, .int .i64 regs, .slice (some ⟨b6, off6, none⟩) m cc, .slice oal lal cal] 31)).alloc (.cells #[.int .i64 op, .int .i64 d, .int .i64 xa, .int .i64 xb, .slice o4 l4 c4'] 34)).alloc (.cells [.int .i64 ((k : Int) + 1)].toArray 3)) (((w.alloc (.cells #[.int .i64 args, .bool rest, .int .i64 regs, .slice (some ⟨b6, off6, none⟩) m cc, .slice oal lal cal] 31)).alloc (.cells #[.int .i64 op, .int .i64 d, .int .i64 xa, .int .i64 xb, .slice o4 l4 c4'] 34)).alloc (.cells [.int .i64 ((k : Int) + 1)].toArray 3)).heap.size 1 IntR [((k : Int) + 1)] (.slice (some ⟨w.heap.size + 1 + 1, 0, none⟩) 1 1) from intsNew (l := [((k : Int) + 1)]) (by simp) (by simp) 3 (by simp [HK.out]) 1 rfl (by omega))
   have HBW := Lib.hid (show Below w.heap.size w (((w.alloc (.cells #[.int .i64 args, .bool rest, .int .i64 regs, .slice (some ⟨b6, off6, none⟩) m cc, .slice oal lal cal] 31)).alloc (.cells #[.int .i64 op, .int .i64 d, .int .i64 xa, .int .i64 xb, .slice o4 l4 c4'] 34)).alloc (.cells [.int .i64 ((k : Int) + 1)].toArray 3)) from ((Below.one w _).trans ((Below.one _ _).mono (by simp))).trans ((Below.one _ _).mono (by simp; omega)))
   have HXO := Lib.hid (show BoxL (((w.alloc (.cells #[.int .i64 args, .bool rest, .int .i64 regs, .slice (some ⟨b6, off6, none⟩) m cc, .slice oal lal cal] 31)).alloc (.cells #[.int .i64 op, .int .i64 d, .int .i64 xa, .int .i64 xb, .slice o4 l4 c4'] 34)).alloc (.cells [.int .i64 ((k : Int) + 1)].toArray 3)) (w.heap.size + 1) 34 [.int .i64 op, .int .i64 d, .int .i64 xa, .int .i64 xb, .slice o4 l4 c4'] from (BoxL.new (by simp) _ _).alloc _)
   go_enter Tryz.func148, Tryz.ntmps148
   go_wp2_with (at_builtin; refine wpList_append_ints rfl (.tmp 20) (.tmp 23) rfl w.heap.size _ (.slice none 0 0) [] [(k : Int) + 1] rfl (World.ownsRow_nil _ _ _ _) (some ⟨w.heap.size + 1 + 1, 0, none⟩) 1 1 rfl HNW.out (by simp) (by first | (simp; omega) | simp) ?_)
   intro v' w3 hown hgrow
   have HON : Hid (SlC w3 w3.heap.size 1 IntR SU v') := Lib.hid (by rw [HGE.out]; exact rowInts (l := [(k : Int) + 1]) hown (by simp [HK.out]))
   have HB3 := Lib.hid (HBW.out.grown hgrow HBW.out.size (fun g hg => by simp [Value.ownBlock] at hg))
   have bx : BoxL w3 (w.heap.size + 1) 34 [.int .i64 op, .int .i64 d, .int .i64 xa, .int .i64 xb, .slice o4 l4 c4'] := (hgrow.block _ HXO.out.lt (by simp [Value.ownBlock])).trans HXO.out
   have x0 := bx.cell 0 rfl
   have x3 := bx.cell 3 rfl
   have hbxl := bx.lt
   obtain ⟨oo, lo, co, rfl⟩ := HON.out.form
   clear hown hgrow
   go_wp2_with fail
   go_ret
   exact ⟨_, rfl, HON.out, HB3.out⟩
  ·have f19 : decide (op < 19) = false := decide_eq_false h19
   have HGE := Lib.hid (show SU = [] from by rw [← HGS.out]; simp [goesL, h15, h16]; omega)
   go_enter Tryz.func148, Tryz.ntmps148
   go_wp2_with fail
   go_ret
   rw [HGE.out]
   exact ⟨_, rfl, ints_nil _ _, (Below.one w _).trans ((Below.one _ _).mono (by simp))⟩
end
section
open Go.RowKit
namespace Live
open Unt Peep
def NInv (code : List Ins) (r : Nat) (fr : List Nat) (M : Nat → Bool) (todo : List Nat) : Prop :=
 (∀ k, M k = true → ∃ x, code[k]? = some x ∧ (r : Int) ∉ named x ∧ (gives x ≠ (r : Int) → ∀ j ∈ succs x k, M j = true ∨ j ∈ todo)) ∧ (∀ j ∈ fr, M j = true ∨ j ∈ todo) ∧ (∀ t ∈ todo, t < code.length ∧ (Need code r t → ∃ j ∈ fr, Need code r j))
theorem NInv.start {code : List Ins} {r : Nat} {fr : List Nat} (h : ∀ t ∈ fr, t < code.length) : NInv code r fr (fun _ => false) fr := ⟨fun k hk => (by cases hk), fun j hj => .inr hj, fun t ht => ⟨h t ht, fun hn => ⟨t, ht, hn⟩⟩⟩
theorem NInv.skip {code : List Ins} {r k : Nat} {fr todo : List Nat} {M : Nat → Bool} (h : NInv code r fr M (todo ++ [k])) (hk : M k = true) : NInv code r fr M todo := by
 have hm : ∀ j, (M j = true ∨ j ∈ todo ++ [k]) → (M j = true ∨ j ∈ todo) := fun j hj => by
  rcases hj with hj | hj
  ·exact .inl hj
  ·rcases List.mem_append.1 hj with hj | hj
   ·exact .inr hj
   ·obtain rfl : j = k := by simpa using hj
    exact .inl hk
 refine ⟨fun i hi => ?_, fun j hj => hm j (h.2.1 j hj), fun t ht => h.2.2 t (by simp [ht])⟩
 obtain ⟨x, h1, h2, h3⟩ := h.1 i hi
 exact ⟨x, h1, h2, fun hg j hj => hm j (h3 hg j hj)⟩
theorem NInv.hit {code : List Ins} {r k : Nat} {fr todo : List Nat} {M : Nat → Bool} {x : Ins} (h : NInv code r fr M (todo ++ [k])) (hx : code[k]? = some x) (hr : (r : Int) ∈ named x) : ∃ j ∈ fr, Need code r j := (h.2.2 k (by simp)).2 (.use hx hr)
theorem NInv.push {code : List Ins} {r k : Nat} {fr todo l : List Nat} {M : Nat → Bool} {x : Ins} (h : NInv code r fr M (todo ++ [k])) (hc : Closed code) (hx : code[k]? = some x) (hr : (r : Int) ∉ named x) (hl : gives x ≠ (r : Int) → l = succs x k) (hl2 : gives x = (r : Int) → l = []) : NInv code r fr (fun i => if i = k then true else M i) (todo ++ l) := by
 have hm : ∀ j, (M j = true ∨ j ∈ todo ++ [k]) → ((if j = k then true else M j) = true ∨ j ∈ todo ++ l) := fun j hj => by
  by_cases e : j = k
  ·left; rw [if_pos e]
  ·rw [if_neg e]
   rcases hj with hj | hj
   ·exact .inl hj
   ·rcases List.mem_append.1 hj with hj | hj
    ·right; simp [hj]
    ·exact absurd (by simpa using hj) e
 refine ⟨fun i hi => ?_, fun j hj => hm j (h.2.1 j hj), fun t ht => ?_⟩
 ·by_cases e : i = k
  ·subst e
   refine ⟨x, hx, hr, fun hg j hj => .inr ?_⟩
   rw [hl hg]; simp [hj]
  ·have hi : (if i = k then true else M i) = true := hi
   rw [if_neg e] at hi
   obtain ⟨y, h1, h2, h3⟩ := h.1 i hi
   exact ⟨y, h1, h2, fun hg j hj => hm j (h3 hg j hj)⟩
 ·rcases List.mem_append.1 ht with ht | ht
  ·exact h.2.2 t (by simp [ht])
  ·by_cases hg : gives x = (r : Int)
   ·rw [hl2 hg] at ht; simp at ht
   ·rw [hl hg] at ht
    exact ⟨hc.2 k x hx t ht, fun hn => (h.2.2 k (by simp)).2 (.on hx hg ht hn)⟩
theorem NInv.done {code : List Ins} {r : Nat} {fr : List Nat} {M : Nat → Bool} (h : NInv code r fr M []) : ¬ ∃ j ∈ fr, Need code r j := by
 have key : ∀ {k : Nat}, Need code r k → ¬ M k = true := fun hn => hn.sub (S := fun k => ¬ M k = true)
  (fun k x hx hr hk => by
   obtain ⟨y, h1, h2, _⟩ := h.1 k hk
   obtain rfl := Option.some.inj (hx.symm.trans h1)
   exact h2 hr)
  (fun k x hx hg j hj hS hk => by
   obtain ⟨y, h1, _, h3⟩ := h.1 k hk
   obtain rfl := Option.some.inj (hx.symm.trans h1)
   rcases h3 hg j hj with h4 | h4
   ·exact hS h4
   ·simp at h4)
 rintro ⟨j, hj, hn⟩
 rcases h.2.1 j hj with h4 | h4
 ·exact key hn h4
 ·simp at h4
def unmet (m : Nat) (M : Nat → Bool) : Nat := (List.range m).countP fun i => !M i
theorem unmet_le (m : Nat) (M : Nat → Bool) : unmet m M ≤ m := by
 refine Nat.le_trans List.countP_le_length ?_
 simp
theorem unmet_less {m k : Nat} {M : Nat → Bool} (hk : k < m) (h : M k = false) : unmet m (fun i => if i = k then true else M i) < unmet m M :=
 countP_less (fun i _ hi => by
  by_cases e : i = k
  ·subst e; simp at hi
  ·simpa [e] using hi) ⟨k, List.mem_range.2 hk, by simp [h], by simp⟩
end Live
theorem info_bool : (Tryz.prog.info? 4).map (fun i => (i.zero, i.size, i.bytes)) = some (some (.bool false), 1, 1) := by kernel_rfl
theorem ownsRow_init {W : World} {base g n cap : Nat} {e : TypeId} {xs : List Value} {x : Value} (h : W.ownsRow base e 1 (.slice (some ⟨g, 0, none⟩) (n + 1) cap) (n + 1) (xs ++ [x])) : W.ownsRow base e 1 (.slice (some ⟨g, 0, none⟩) n cap) n xs ∧ W.cell? ⟨g, n, none⟩ = some x ∧ n + 1 ≤ cap ∧ cap ≤ 9223372036854775807 ∧ base ≤ g ∧ g < W.heap.size := by
 have hlen : xs.length = n := by have := h.1; simp at this; omega
 rcases h.2 with ⟨_, h0⟩ | ⟨g', cap', cur, he, hb, hg, hle, hm, hsz, htk⟩
 ·omega
 ·simp only [Value.slice.injEq, Option.some.injEq, Addr.mk.injEq, and_true, true_and] at he
  obtain ⟨rfl, rfl⟩ := he
  have hx : cur[n]? = some x := by
   have h1 : (xs ++ [x])[n]? = some x := by rw [List.getElem?_append_right (by omega), hlen]; simp
   rw [← htk, List.getElem?_take] at h1
   split at h1
   ·simpa using h1
   ·cases h1
  refine ⟨⟨by omega, .inr ⟨g, cap, cur, rfl, hb, hg, by omega, hm, hsz, ?_⟩⟩, ?_, hle, by unfold maxLen at hm; omega, hb, (Array.getElem?_eq_some_iff.1 hg).1⟩
  ·rw [Nat.mul_one] at htk ⊢
   have h2 := congrArg (List.take n) htk
   rw [List.take_take, Nat.min_eq_left (by omega)] at h2
   have h3 : List.take n (xs ++ [x]) = xs := by rw [List.take_append_of_le_length (by omega), List.take_of_length_le (by omega)]
   exact h2.trans h3
  ·unfold World.cell?
   simp only [hg]
   exact hx
def NSt (w : World) (pc : List Value) (m : Nat) (M : Nat → Bool) (todo : List Nat) (v : Value) (wr : World) : Prop :=
 Below w.heap.size w wr ∧ BoxL wr w.heap.size 31 pc ∧ wr.rowIs (w.heap.size + 1) 4 m (fun i => .bool (M i)) ∧ wr.ownsRow (w.heap.size + 1 + 1) 3 1 v todo.length (todo.map fun (t : Nat) => Value.int .i64 (t : Int))
open Classical in
theorem needed16_any (p : Proc) (c0 c1 c2 c3 c4 : Value) (B R r : Nat) (fr : List Nat) (sf : Value) (w : World) (hp : ProcR w B p [c0, c1, c2, c3, c4]) (hB : B ≤ w.heap.size) (hok : CodeOk p.code R) (hm : p.code.length ≤ 1000) (hf : SlC w w.heap.size 1 IntR (fr.map fun (t : Nat) => (t : Int)) sf) (hfr : ∀ t ∈ fr, t < p.code.length) (hfl : fr.length ≤ 1000) :
    Calls Tryz.prog 130 #[.agg #[c0, c1, c2, c3, c4], sf, .int .i64 r] w fun e w' => e = .returned (.bool (decide (∃ j ∈ fr, Live.Need p.code r j))) ∧ Below w.heap.size w w' := by
  obtain ⟨q, hq⟩ : ∃ q, decide (∃ j ∈ fr, Live.Need p.code r j) = q := ⟨_, rfl⟩
  rw [hq]
  have HQ := Lib.hid hq
  have HPR := Lib.hid hp
  obtain ⟨of, lf, cf, rfl⟩ := hf.form
  obtain ⟨args, rest, regs, code, alive⟩ := p
  obtain ⟨sl, al, he, _, _, hsl, hal⟩ := hp
  obtain ⟨oc, m, cc, rfl⟩ := hsl.form
  obtain ⟨oal, lal, cal, rfl⟩ := hal.form
  simp only [List.cons.injEq, and_true] at he
  obtain ⟨rfl, rfl, rfl, rfl, rfl⟩ := he
  dsimp only at hok hm hfr hsl
  have HC := Lib.hid hsl
  have HM := Lib.hid hsl.lens.1
  have hm1 : m ≤ 1000 := by rw [hsl.lens.1]; exact hm
  have hmcap := hsl.lens.2
  have HOK := Lib.hid hok
  have HI0 := Lib.hid (Live.NInv.start (r := r) hfr)
  have hmk := run_make_row' (P := Tryz.prog) 52 4 (.bool false) 1 Tryz.underlying52 info_bool rfl .i64 .i64 m (by omega) (by omega)
  have hlf : lf ≤ 1000 := by rw [hf.lens.1, List.length_map]; exact hfl
  obtain ⟨W1, hW1⟩ : ∃ W1, (((w.alloc (.cells #[.int .i64 args, .bool rest, .int .i64 regs, .slice oc m cc, .slice oal lal cal] 31)).alloc (.cells (madeCells #[.bool false] m) 4)).alloc (.cells [].toArray 3)) = W1 := ⟨_, rfl⟩
  have HB1 := Lib.hid (show Below w.heap.size w W1 from by rw [← hW1]; exact ((Below.one w _).trans ((Below.one _ _).mono (by simp))).trans ((Below.one _ _).mono (by simp; omega)))
  have HBX1 := Lib.hid (show BoxL W1 w.heap.size 31 [.int .i64 args, .bool rest, .int .i64 regs, .slice oc m cc, .slice oal lal cal] from by rw [← hW1]; exact ((BoxL.new rfl _ _).alloc _).alloc _)
  have HMT1 := Lib.hid (show W1.rowIs (w.heap.size + 1) 4 m (fun _ => .bool false) from by
    rw [← hW1]
    have h := World.rowIs_made (w.alloc (.cells #[.int .i64 args, .bool rest, .int .i64 regs, .slice oc m cc, .slice oal lal cal] 31)) (.bool false) m 4
    rw [World.size_alloc] at h
    exact h.alloc _)
  have HOE := Lib.hid (show W1.ownsRow (w.heap.size + 1 + 1) 3 1 (.slice (some ⟨w.heap.size + 1 + 1, 0, none⟩) 0 0) 0 [] from by rw [← hW1]; exact ownsRow_new (by simp) (by omega) 3 1 0 [] rfl (by unfold maxLen; omega))
  have HF1 := Lib.hid (hf.kept HB1.out fun _ _ _ h => h)
  have hsz1 : W1.heap.size = w.heap.size + 1 + 1 + 1 := by rw [← hW1]; simp
  have HW1 := Lib.hid hW1
  clear hsl hal hok hm hf hfr hW1 hq
  go_enter Tryz.func130, Tryz.ntmps130
  go_wp2_with (at_builtin; rw [HW1.out]; refine wpList_append_ints rfl (.tmp 17) (.tmp 18) rfl (w.heap.size + 1 + 1) _ (.slice (some ⟨w.heap.size + 1 + 1, 0, none⟩) 0 0) [] (fr.map fun (t : Nat) => (t : Int)) rfl HOE.out of lf cf rfl HF1.out (by simp; omega) (by omega) ?_)
  intro v' w3 hown hgrow
  have HS3 := Lib.hid (show NSt w [.int .i64 args, .bool rest, .int .i64 regs, .slice oc m cc, .slice oal lal cal] m (fun _ => false) fr v' w3 from
    ⟨HB1.out.grown hgrow HB1.out.size (fun g hg => by simp [Value.ownBlock] at hg; omega), (hgrow.block _ HBX1.out.lt (by intro e; simp only [Value.ownBlock, Option.some.injEq] at e; omega)).trans HBX1.out, HMT1.out.of_block (hgrow.block _ HMT1.out.lt (by intro e; simp only [Value.ownBlock, Option.some.injEq] at e; omega)), by simpa [Function.comp_def] using hown⟩)
  clear hown hgrow
  go_wp2_with fail
  go_loopg [8] (3 * Live.unmet m (fun _ => false) + fr.length) (fun G v wr => ∃ (M : Nat → Bool) (todo : List Nat), G = 3 * Live.unmet m M + todo.length ∧ Hid (NSt w [.int .i64 args, .bool rest, .int .i64 regs, .slice oc m cc, .slice oal lal cal] m M todo v wr) ∧ Hid (Live.NInv code r fr M todo) ∧ todo.length + 2 * Live.unmet m M ≤ 3000)
  case atStart => exact ⟨_, fr, rfl, HS3, HI0, by have := Live.unmet_le m (fun _ => false); omega⟩
  case round =>
    obtain ⟨M, todo, rfl, HS, HI, htl⟩ := hrel
    clear HS3 HI0
    rcases List.eq_nil_or_concat todo with rfl | ⟨ini, k, rfl⟩
    · obtain ⟨o8, l8, c8, rfl⟩ : ∃ o l c, u8 = .slice o l c := by
        rcases HS.out.2.2.2.2 with ⟨h, _⟩ | ⟨g, cap, cur, h, _⟩
        · exact ⟨_, _, _, h⟩
        · exact ⟨_, _, _, h⟩
      obtain rfl : l8 = 0 := by
        rcases HS.out.2.2.2.2 with ⟨h, _⟩ | ⟨g, cap, cur, h, _⟩
        · simp only [Value.slice.injEq] at h; exact h.2.1
        · simp only [Value.slice.injEq] at h; exact h.2.1
      obtain rfl : false = q := by rw [← HQ.out]; exact (decide_eq_false HI.out.done).symm
      have HB := Lib.hid HS.out.1
      go_wp2_with fail
      go_ret
      exact ⟨rfl, HB.out⟩
    · simp only [List.concat_eq_append] at HS HI htl ⊢
      obtain ⟨hb, hbx, hmt, hown⟩ := HS.out
      rw [List.map_append, List.length_append] at hown
      obtain ⟨g, cap, rfl⟩ : ∃ g cap, u8 = .slice (some ⟨g, 0, none⟩) (ini.length + 1) cap := by
        rcases hown.2 with ⟨_, h⟩ | ⟨g, cap, cur, h, _⟩
        · simp at h
        · exact ⟨g, cap, h⟩
      obtain ⟨hini, hck, hcap1, hcap2, hgb, hgl⟩ := ownsRow_init hown
      obtain ⟨n, hn⟩ : ∃ n, ini.length = n := ⟨_, rfl⟩
      rw [hn] at hini hck hcap1 ⊢
      have hkm : k < m := by rw [HM.out]; exact (HI.out.2.2 k (by simp)).1
      have hn2 : n + 1 + 2 * Live.unmet m M ≤ 3000 := by rw [List.length_append, hn] at htl; simpa using htl
      have HN := Lib.hid hn
      have HINI := Lib.hid hini
      have HBX := Lib.hid hbx
      have HMT := Lib.hid hmt
      have HB := Lib.hid hb
      have hmc := hmt.cell hkm
      have hmz := hmt.frozen k
      have hmb := hmt.lt
      have HG := Lib.hid hgb
      obtain ⟨mk, hmk⟩ : ∃ mk, M k = mk := ⟨_, rfl⟩
      rw [hmk] at hmc
      have HMK := Lib.hid hmk
      clear hown hbx hmt hb hini hgb hmk HS hn
      cases mk with
      | true =>
        have HN2 := Lib.hid (show NSt w [.int .i64 args, .bool rest, .int .i64 regs, .slice oc m cc, .slice oal lal cal] m M ini (.slice (some ⟨g, 0, none⟩) n cap) wr from ⟨HB.out, HBX.out, HMT.out, by rw [HN.out]; exact HINI.out⟩)
        have HI2 := Lib.hid (HI.out.skip HMK.out)
        go_wp2_with fail
        go_roundg (3 * Live.unmet m M + n)
        case measure => have h1 := HN.out; (try simp only [List.concat_eq_append, List.length_append, List.length_cons, List.length_nil]); omega
        case rel => exact ⟨M, ini, by rw [HN.out], HN2, HI2, by rw [HN.out]; omega⟩
      | false =>
        obtain ⟨x, hx⟩ : ∃ x, code[k]? = some x := ⟨_, List.getElem?_eq_getElem (by rw [← HM.out]; exact hkm)⟩
        obtain ⟨W4, hW4⟩ : ∃ W4, wr.setCell ⟨w.heap.size + 1, k, none⟩ (.bool true) = W4 := ⟨_, rfl⟩
        have HB4 := Lib.hid (show Below w.heap.size w W4 from by rw [← hW4]; exact HB.out.setCell (p := ⟨w.heap.size + 1, k, none⟩) (by simp) _)
        have HBX4 := Lib.hid (show BoxL W4 w.heap.size 31 [.int .i64 args, .bool rest, .int .i64 regs, .slice oc m cc, .slice oal lal cal] from by rw [← hW4]; exact HBX.out.other _ _ (by simp))
        have HMT4 := Lib.hid (show W4.rowIs (w.heap.size + 1) 4 m (fun i => .bool (if i = k then true else M i)) from by
          rw [← hW4]
          exact (HMT.out.set k _).congr (by intro i hi; by_cases e : i = k <;> simp [e]))
        have HINI4 := Lib.hid (show W4.ownsRow (w.heap.size + 1 + 1) 3 1 (.slice (some ⟨g, 0, none⟩) n cap) n (ini.map fun (t : Nat) => Value.int .i64 (t : Int)) from by
          rw [← hW4]
          exact ownsRow_set HINI.out _ _ (fun g' hg => by simp only [Value.ownBlock, Option.some.injEq] at hg; have := HG.out; show g' ≠ w.heap.size + 1; omega))
        have hw4s : W4.heap.size = wr.heap.size := by rw [← hW4]; simp
        have hHW4 := Lib.hid hW4
        have hbw : Below B w W4 := HB4.out.mono hB
        obtain ⟨b6, off6, cs6, ho6, hb6B, hcl6, hcell, hins⟩ := HC.out.at hbw hx
        have HX := Lib.hid hx
        subst ho6
        match cs6, hcl6 with
        | [t0, t1, t2, t3, t4], _ =>
          have e0 := hcell 0 _ rfl
          have e1 := hcell 1 _ rfl
          have e2 := hcell 2 _ rfl
          have e3 := hcell 3 _ rfl
          have e4 := hcell 4 _ rfl
          rw [Nat.add_zero] at e0
          have hxm := List.mem_of_getElem? hx
          have hop := HOK.out.1 x hxm
          have hxl := HOK.out.2.2.2.2.2 x hxm
          have HNM := Lib.hid (named_any x t0 t1 t2 t3 t4 B W4 (hins.kept hbw) (by have := hbw.size; omega) (Nat.le_trans hxl (by decide)) hop.1 hop.2)
          obtain ⟨N, hN⟩ : ∃ N, Unt.named x = N := ⟨_, rfl⟩
          obtain ⟨gd, hgd⟩ : ∃ gd, Unt.gives x = gd := ⟨_, rfl⟩
          have hNl : N.length ≤ 1002 := by rw [← hN]; have := named_len x; omega
          have HNE := Lib.hid hN
          have HGE := Lib.hid hgd
          unfold NamedPost at HNM
          rw [hN, hgd] at HNM
          have HNX := Lib.hid (fun (V : World) (hV : Below w.heap.size w V) => next16_any ⟨args, rest, regs, code, alive⟩ _ _ _ _ _ B k x V (HPR.out.kept (hV.mono hB)) (by have := hV.size; omega) HOK.out.2.2.2.2.1 hx (by omega))
          obtain ⟨SU, hSU⟩ : ∃ SU, Peep.succs x k = SU := ⟨_, rfl⟩
          have hSUl : SU.length ≤ 2 := by rw [← hSU]; exact succs_len _ _
          rw [hSU] at HNX
          have HSU := Lib.hid hSU
          obtain ⟨op, d, xa, xb, l⟩ := x
          obtain ⟨sl, he, _, _, _, _, hsl⟩ := hins
          obtain ⟨o4, l4, c4', rfl⟩ := hsl.form
          simp only [List.cons.injEq, and_true] at he
          obtain ⟨rfl, rfl, rfl, rfl, rfl⟩ := he
          have b3 := HBX4.out.cell 3 rfl
          have hbxl := HBX4.out.lt
          have hbl6 := cell_lt e0
          clear hcell hcl6 hsl hx hxm hN hgd hSU hxl hop hW4
          go_upto_region 8 with fail
          rw [hHW4.out]
          go_wp2_with fail
          refine HNM.out.mono ?_
          rintro e w5 ⟨sn, rfl, hsn, hb5⟩
          obtain ⟨on, ln, cn, rfl⟩ := hsn.form
          have HSN := Lib.hid hsn
          have HLN := Lib.hid hsn.lens.1
          have hln : ln ≤ 1002 := by rw [hsn.lens.1]; exact hNl
          have hncap := hsn.lens.2
          have HB5 := Lib.hid (Below.next HB4.out hb5)
          have HBX5 := Lib.hid (HBX4.out.keep hb5)
          have HMT5 := Lib.hid (keepR hb5 HMT4.out)
          have HINI5 := Lib.hid (ownsRow_keep HINI4.out hb5)
          clear hsn hb5 HNM e0 e1 e2 e3 e4 b3 hbxl hmc hmz hck
          have HUL := Lib.hid (Live.unmet_less hkm HMK.out)
          have HJ0 := Lib.hid (show ∀ t, t < 0 → N[t]? ≠ some (r : Int) from fun t h => by omega)
          go_wp2_with fail
          go_loopg [12] ln (fun G i wq => ∃ j : Nat, G = ln - j ∧ j ≤ ln ∧ i = .int .i64 j ∧ Hid (∀ t, t < j → N[t]? ≠ some (r : Int)) ∧ w5 = wq)
          case atStart => exact ⟨0, rfl, by omega, rfl, HJ0, rfl⟩
          case round =>
            obtain ⟨j, rfl, hj, rfl, HJ, rfl⟩ := hrel
            clear HJ0
            by_cases hjl : j < ln
            · obtain ⟨y, hy⟩ : ∃ y, N[j]? = some y := ⟨_, List.getElem?_eq_getElem (by rw [← HLN.out]; exact hjl)⟩
              obtain ⟨b9, off9, es, ho9, hb9, hel, hecell, hei⟩ := HSN.out.at (Below.refl _ _) hy
              subst ho9
              have g0 := hecell 0 (.int .i64 y) (by rw [hei.1]; rfl)
              rw [Nat.mul_one, Nat.add_zero] at g0
              have HY := Lib.hid hy
              clear hecell hei hy
              by_cases hyr : y = (r : Int)
              · obtain rfl : true = q := by
                  rw [← HQ.out]
                  exact (decide_eq_true (HI.out.hit HX.out (by rw [HNE.out, ← hyr]; exact List.mem_of_getElem? HY.out))).symm
                have fy : (y == (r : Int)) = true := by simpa using hyr
                clear hyr
                go_wp2_with fail
                go_ret
                exact ⟨rfl, HB5.out⟩
              · have fy : (y == (r : Int)) = false := by simpa using hyr
                have HJ2 := Lib.hid (show ∀ t, t < j + 1 → N[t]? ≠ some (r : Int) from fun t ht h => by
                  by_cases e : t = j
                  · subst e; rw [HY.out] at h; exact hyr (Option.some.inj h)
                  · exact HJ.out t (by omega) h)
                go_wp2_with fail
                go_roundg (ln - (j + 1))
                case measure => omega
                case rel => exact ⟨j + 1, rfl, by omega, by go_num, HJ2, rfl⟩
            · obtain rfl : j = ln := by omega
              have HNI := Lib.hid (show (r : Int) ∉ Unt.named ⟨op, d, xa, xb, l⟩ from fun h => by
                rw [HNE.out] at h
                obtain ⟨t, ht⟩ := List.mem_iff_getElem?.1 h
                exact HJ.out t (by rw [HLN.out]; exact (List.getElem?_eq_some_iff.1 ht).1) ht)
              have hul := HUL.out
              by_cases hgr : gd = (r : Int)
              · have fg : (gd != (r : Int)) = false := by simpa using hgr
                have HI5 := Lib.hid (show Live.NInv code r fr (fun i => if i = k then true else M i) ini from by
                  have h := HI.out.push (l := []) HOK.out.2.2.2.1 HX.out HNI.out (fun h => absurd (HGE.out.trans hgr) h) (fun _ => rfl)
                  simpa using h)
                have HN5 := Lib.hid (show NSt w [.int .i64 args, .bool rest, .int .i64 regs, .slice (some ⟨b6, off6, none⟩) m cc, .slice oal lal cal] m (fun i => if i = k then true else M i) ini (.slice (some ⟨g, 0, none⟩) n cap) w5 from ⟨HB5.out, HBX5.out, HMT5.out, by rw [HN.out]; exact HINI5.out⟩)
                clear hgr
                go_wp2_with fail
                go_roundg (3 * Live.unmet m (fun i => if i = k then true else M i) + n)
                case measure => have h1 := HN.out; (try simp only [List.concat_eq_append, List.length_append, List.length_cons, List.length_nil]); omega
                case rel => exact ⟨_, ini, by rw [HN.out], HN5, HI5, by rw [HN.out]; omega⟩
              · have fg : (gd != (r : Int)) = true := by simpa using hgr
                have x0 := HBX5.out.cell 0 rfl
                have x1 := HBX5.out.cell 1 rfl
                have x2 := HBX5.out.cell 2 rfl
                have x3 := HBX5.out.cell 3 rfl
                have x4 := HBX5.out.cell 4 rfl
                have hxl := HBX5.out.lt
                have HNX5 := Lib.hid (HNX.out w5 HB5.out)
                have HI5 := Lib.hid (show Live.NInv code r fr (fun i => if i = k then true else M i) (ini ++ SU) from HI.out.push HOK.out.2.2.2.1 HX.out HNI.out (fun _ => HSU.out.symm) (fun h => absurd (HGE.out.symm.trans h) hgr))
                clear hgr HNX
                go_wp2_with fail
                refine HNX5.out.mono ?_
                rintro e w6 ⟨sx, rfl, hsx, hb6⟩
                obtain ⟨ox, lx, cx, rfl⟩ := hsx.form
                have HSX := Lib.hid hsx
                have HB6 := Lib.hid (Below.next HB5.out hb6)
                have HBX6 := Lib.hid (HBX5.out.keep hb6)
                have HMT6 := Lib.hid (keepR hb6 HMT5.out)
                have HINI6 := Lib.hid (ownsRow_keep HINI5.out hb6)
                have hrow : w6.ownsRow (w.heap.size + 1 + 1) 3 1 (.slice (some ⟨g, 0, none⟩) n cap) (ini.map fun (t : Nat) => (t : Int)).length ((ini.map fun (t : Nat) => (t : Int)).map (Value.int .i64)) := by
                  rw [List.length_map, HN.out, List.map_map]; exact HINI6.out
                have hs6 := HB6.out.size
                have hgl6 := (HINI6.out.lt g rfl).2
                have hxlen := hsx.lens.2
                clear hsx hb6 HNX5 x0 x1 x2 x3 x4 hxl
                go_wp2_with (at_builtin; refine wpList_append_ints rfl (.tmp 65) (.tmp 68) rfl (w.heap.size + 1 + 1) _ (.slice (some ⟨g, 0, none⟩) n cap) (ini.map fun (t : Nat) => (t : Int)) (SU.map fun (t : Nat) => (t : Int)) rfl hrow ox lx cx rfl HSX.out (by simp only [List.length_map, HN.out]; omega) (by have := HG.out; omega) ?_)
                intro v7 w7 hown7 hgrow7
                have HN7 := Lib.hid (show NSt w [.int .i64 args, .bool rest, .int .i64 regs, .slice (some ⟨b6, off6, none⟩) m cc, .slice oal lal cal] m (fun i => if i = k then true else M i) (ini ++ SU) v7 w7 from
                  ⟨HB6.out.grown hgrow7 hs6 (fun g' hg => by simp only [Value.ownBlock, Option.some.injEq] at hg; have := HG.out; omega),
                   (hgrow7.block _ HBX6.out.lt (by intro e; simp only [Value.ownBlock, Option.some.injEq] at e; have := HG.out; omega)).trans HBX6.out,
                   HMT6.out.of_block (hgrow7.block _ HMT6.out.lt (by intro e; simp only [Value.ownBlock, Option.some.injEq] at e; have := HG.out; omega)), by simpa [Function.comp_def] using hown7⟩)
                clear hown7 hgrow7 hrow
                go_wp2_with fail
                go_roundg (3 * Live.unmet m (fun i => if i = k then true else M i) + (n + SU.length))
                case measure => have h1 := HN.out; (try simp only [List.concat_eq_append, List.length_append, List.length_cons, List.length_nil]); omega
                case rel => exact ⟨_, ini ++ SU, by rw [List.length_append, HN.out], HN7, HI5, by rw [List.length_append, HN.out]; omega⟩
end
section
open Go.RowKit
open Classical in
theorem live16_any (p : Proc) (c0 c1 c2 c3 c4 : Value) (B R : Nat) (fr : List Nat) (sf : Value) (w : World) (hp : ProcR w B p [c0, c1, c2, c3, c4]) (hB : B ≤ w.heap.size) (hR : p.regs = (R : Int)) (hR2 : R ≤ 20000) (hok : CodeOk p.code R) (hm : p.code.length ≤ 1000) (hf : SlC w w.heap.size 1 IntR (fr.map fun (t : Nat) => (t : Int)) sf) (hfr : ∀ t ∈ fr, t < p.code.length) (hfl : fr.length ≤ 1000) :
  Calls Tryz.prog 82 #[.agg #[c0, c1, c2, c3, c4], sf] w fun e w' => ∃ v, e = .returned v ∧ IntsO w' w.heap.size (Live.live p.code R fr) [v] ∧ Below w.heap.size w w' := by
 have HPR := Lib.hid hp
 obtain ⟨of, lf, cf, rfl⟩ := hf.form
 obtain ⟨args, rest, regs, code, alive⟩ := p
 obtain ⟨sl, al, he, _, _, hsl, hal⟩ := hp
 obtain ⟨oc, m, cc, rfl⟩ := hsl.form
 obtain ⟨oal, lal, cal, rfl⟩ := hal.form
 simp only [List.cons.injEq, and_true] at he
 obtain ⟨rfl, rfl, rfl, rfl, rfl⟩ := he
 dsimp only at hR hok hm hfr
 subst hR
 have HF := Lib.hid hf
 have HND := Lib.hid (fun (V : World) (hV : Below w.heap.size w V) (r : Nat) => needed16_any ⟨args, rest, R, code, alive⟩ _ _ _ _ _ B R r fr (.slice of lf cf) V (HPR.out.kept (hV.mono hB)) (by have := hV.size; omega) hok hm ((HF.out.kept hV fun _ _ _ h => h).wider hV.size) hfr hfl)
 obtain ⟨Q, hQ⟩ : ∃ Q : Nat → Bool, (fun (r : Nat) => decide (∃ j ∈ fr, Live.Need code (r : Int) j)) = Q := ⟨_, rfl⟩
 have HQ := Lib.hid (show ∀ r : Nat, decide (∃ j ∈ fr, Live.Need code (r : Int) j) = Q r from fun r => by rw [← hQ])
 have HLV := Lib.hid (show Live.live code R fr = ((List.range R).filter Q).map fun (r : Nat) => (r : Int) from by rw [← hQ]; rfl)
 obtain ⟨W1, hW1⟩ : ∃ W1, w.alloc (.cells #[.int .i64 args, .bool rest, .int .i64 R, .slice oc m cc, .slice oal lal cal] 31) = W1 := ⟨_, rfl⟩
 have HB1 := Lib.hid (show Below w.heap.size w W1 from by rw [← hW1]; exact Below.one w _)
 have HBX1 := Lib.hid (show BoxL W1 w.heap.size 31 [.int .i64 args, .bool rest, .int .i64 R, .slice oc m cc, .slice oal lal cal] from by rw [← hW1]; exact BoxL.new rfl _ _)
 have HSZ1 := Lib.hid (show W1.heap.size = w.heap.size + 1 from by rw [← hW1]; simp)
 have HW1 := Lib.hid hW1
 have HO0 := Lib.hid (show W1.ownsRow W1.heap.size 3 1 (.slice none 0 0) ((List.range 0).filter Q).length (((List.range 0).filter Q).map fun (r : Nat) => Value.int .i64 (r : Int)) from World.ownsRow_nil _ _ _ _)
 have HBW0 := Lib.hid (Below.refl W1.heap.size W1)
 clear hsl hal hok hm hf hfr hW1 hQ
 go_enter Tryz.func82, Tryz.ntmps82
 go_wp2_with fail
 rw [HW1.out]
 go_loopg [5, 6] R (fun G v i wr => ∃ r : Nat, G = R - r ∧ r ≤ R ∧ i = .int .i64 r ∧ Hid (wr.ownsRow W1.heap.size 3 1 v ((List.range r).filter Q).length (((List.range r).filter Q).map fun (r : Nat) => Value.int .i64 (r : Int))) ∧ Hid (Below W1.heap.size W1 wr))
 case atStart => exact ⟨0, rfl, by omega, rfl, HO0, HBW0⟩
 case round =>
  obtain ⟨r, rfl, hr, rfl, HO, HBW⟩ := hrel
  clear HO0 HBW0
  have x0 := (HBX1.out.keep HBW.out).cell 0 rfl
  have x1 := (HBX1.out.keep HBW.out).cell 1 rfl
  have x2 := (HBX1.out.keep HBW.out).cell 2 rfl
  have x3 := (HBX1.out.keep HBW.out).cell 3 rfl
  have x4 := (HBX1.out.keep HBW.out).cell 4 rfl
  have hxl := (HBX1.out.keep HBW.out).lt
  have HB := Lib.hid (Below.next HB1.out HBW.out)
  by_cases hrR : r < R
  ·have HN := Lib.hid (HND.out wr HB.out r)
   rw [HQ.out r] at HN
   obtain ⟨q, hq⟩ : ∃ q, Q r = q := ⟨_, rfl⟩
   rw [hq] at HN
   have HQr := Lib.hid hq
   clear hq
   go_wp2_with fail
   refine HN.out.mono ?_
   rintro e w2 ⟨rfl, hb2⟩
   have HBW2 := Lib.hid (Below.next HBW.out hb2)
   have HO2 := Lib.hid (ownsRow_keep HO.out hb2)
   have hs2 := HBW2.out.size
   clear hb2 HN x0 x1 x2 x3 x4
   cases q with
   | false =>
    have HE : (List.range (r + 1)).filter Q = (List.range r).filter Q := by rw [List.range_succ, List.filter_append]; simp [HQr.out]
    have HNW := Lib.hid (show w2.ownsRow W1.heap.size 3 1 u5 ((List.range (r + 1)).filter Q).length (((List.range (r + 1)).filter Q).map fun (r : Nat) => Value.int .i64 (r : Int)) from by rw [HE]; exact HO2.out)
    clear HE
    go_wp2_with fail
    go_roundg (R - (r + 1))
    case measure => omega
    case rel => exact ⟨r + 1, rfl, by omega, by go_num, HNW, HBW2⟩
   | true =>
    have HE := Lib.hid (show (List.range (r + 1)).filter Q = (List.range r).filter Q ++ [r] from by rw [List.range_succ, List.filter_append]; simp [HQr.out])
    obtain ⟨i0, hi0, hz0, hz1, hz2⟩ := info_parts info_int
    have hlen : ((List.range r).filter Q).length ≤ 64000 := by
     have := List.length_filter_le Q (List.range r)
     simp only [List.length_range] at this
     omega
    go_wp2_with (at_builtin; refine wpList_append_own _ rfl _ _ 32 rfl W1.heap.size 3 i0 (.int .i64 0) 1 8 Tryz.underlying32 hi0 hz0 hz1 hz2 rfl (by decide) u5 _ _ rfl (HO2.out.alloc _) ⟨w2.heap.size, 0, none⟩ 1 1 [.int .i64 (r : Int)] rfl rfl (new_cells w2 _ _) (by intro u hu; simp only [List.mem_cons, List.not_mem_nil, or_false] at hu; subst hu; rfl) (by unfold maxLen; omega) (by omega) (by simp; omega) ?_)
    intro v' w3 hown hgrow _
    have HNW := Lib.hid (show w3.ownsRow W1.heap.size 3 1 v' ((List.range (r + 1)).filter Q).length (((List.range (r + 1)).filter Q).map fun (r : Nat) => Value.int .i64 (r : Int)) from by
     rw [HE.out, List.length_append, List.map_append]; exact hown)
    have HBW3 := Lib.hid (show Below W1.heap.size W1 w3 from (HBW2.out.trans ((Below.one w2 _).mono hs2)).grown hgrow (by simp; omega) (fun g hg => (HO2.out.lt g hg).1))
    clear hown hgrow
    go_wp2_with fail
    go_roundg (R - (r + 1))
    case measure => omega
    case rel => exact ⟨r + 1, rfl, by omega, by go_num, HNW, HBW3⟩
  ·obtain rfl : r = R := by omega
   go_wp2_with fail
   go_ret
   refine ⟨_, rfl, ⟨_, rfl, ?_, ?_⟩, HB.out⟩
   ·rw [HLV.out, List.length_map, List.map_map]
    exact ownsRow_base HO.out (by have := HSZ1.out; omega)
   ·rw [HLV.out]
    exact i64_nats fun y hy => by
     have := List.mem_range.1 (List.mem_filter.1 hy).1
     omega
end
section
open Go.RowKit
theorem cell_q {W V : World} {a : Addr} {v : Value} (h : V = W.drew) (hc : W.cell? a = some v) : V.cell? a = some v := by rw [h]; exact hc
theorem rcheck_any (u : Unt) (v : Value) (B : Nat) (w : World) (hv : UntR w B u v) (hB : B ≤ w.heap.size) (hL : ∀ p ∈ u.procs, p.code.length ≤ 50000 → ∀ x ∈ p.code, x.l.length ≤ 1000000) :
  Calls Tryz.prog 13 #[v] w fun e w' => e = .returned (.int .i64 u.err) ∧ Below w.heap.size w w' := by
 obtain ⟨cv, pv, rfl, hc, hp⟩ := hv
 obtain ⟨E, hE⟩ : ∃ E, u.err = E := ⟨_, rfl⟩
 rw [hE]
 obtain ⟨op, np, cp, rfl, hnp, hcapp, hmaxp⟩ := hp.slice
 obtain ⟨ok, nk, ck, rfl, hnk, hcapk, hmaxk, hck⟩ := hc
 have HCK := Lib.hid hck
 have HP := Lib.hid hp
 have HE := Lib.hid hE
 have HNP := Lib.hid hnp
 have HNK := Lib.hid hnk
 have HLS := Lib.hid hL
 clear hp hE hnp hnk hck hL
 have HNO := Lib.hid (show (∀ h : u.okB = false, E = 5) from fun h => by rw [← HE.out, err_no h])
 by_cases c1 : np < 1
 ·obtain rfl : E = 5 := HNO.out (by rw [Unt.okB, ← HNP.out]; simp; omega)
  obtain rfl : np = 0 := by omega
  go_enter Tryz.func13, Tryz.ntmps13
  go_wp2_with fail
  go_ret
  exact ⟨rfl, Below.one _ _⟩
 by_cases c2 : 1000 < np
 ·obtain rfl : E = 5 := HNO.out (by rw [Unt.okB, ← HNP.out]; simp; omega)
  go_enter Tryz.func13, Tryz.ntmps13
  go_wp2_with fail
  go_ret
  exact ⟨rfl, Below.one _ _⟩
 have c1' : ¬ (np : Int) < 1 := by omega
 obtain ⟨W1, hW1⟩ : ∃ W1, w.alloc (.cells #[.slice ok nk ck, .slice op np cp] 25) = W1 := ⟨_, rfl⟩
 have HB1 := Lib.hid (show Below w.heap.size w W1 from by rw [← hW1]; exact Below.one w _)
 have HU := Lib.hid (show BoxL W1 w.heap.size 25 [.slice ok nk ck, .slice op np cp] from by rw [← hW1]; exact BoxL.new rfl _ _)
 have HW1 := Lib.hid hW1
 have HW0 := Lib.hid (Below.refl W1.heap.size W1)
 have HA0 := Lib.hid (show (u.consts.take 0).all (fun x => Dat.right x 0) = true from rfl)
 clear hW1
 go_enter Tryz.func13, Tryz.ntmps13
 go_wp2_with fail
 rw [HW1.out]
 go_loopg [3] nk (fun G i wr => ∃ j : Nat, G = nk - j ∧ j ≤ nk ∧ i = .int .i64 j ∧ Hid ((u.consts.take j).all (fun x => Dat.right x 0) = true) ∧ Hid (Below W1.heap.size W1 wr))
 case atStart => exact ⟨0, rfl, by omega, rfl, HA0, HW0⟩
 case round =>
  obtain ⟨j, rfl, hj, rfl, HA, HW⟩ := hrel
  clear HW0 HA0
  have U0 := (HU.out.keep HW.out).cell 0 rfl
  have U1 := (HU.out.keep HW.out).cell 1 rfl
  have hul := (HU.out.keep HW.out).lt
  have HWW := Lib.hid (Below.next HB1.out HW.out)
  by_cases hjl : j < nk
  ·obtain ⟨x, hx⟩ : ∃ x, u.consts[j]? = some x := ⟨_, List.getElem?_eq_getElem (by rw [← HNK.out]; exact hjl)⟩
   obtain ⟨b, off, k', n', d', s', l', o', len', cap', ho, hxe, e0, e1, e2, e3, e4, er⟩ := part_at2 HCK.out (HWW.out.mono hB) hx
   have hbl := cell_lt e0
   obtain ⟨r, hr⟩ : ∃ r, Dat.right x 0 = r := ⟨_, rfl⟩
   have HR := Lib.hid (rRight_to x (.agg #[.int .i64 k', .int .i64 n', .int .i64 d', .string s', .slice o' len' cap']) B wr r hr (by rw [hxe]; exact er) (by have := HWW.out.size; omega))
   have HX := Lib.hid hx
   have HRR := Lib.hid hr
   subst ho
   clear hx hr er hxe
   go_wp2_with fail
   refine HR.out.mono ?_
   rintro e w2 ⟨rfl, hb2⟩
   have HW2 := Lib.hid (Below.next HW.out hb2)
   clear hb2 HR e0 e1 e2 e3 e4
   cases r with
   | false =>
    obtain rfl : E = 5 := HNO.out (by
     have h2 : u.consts.all (fun x => Dat.right x 0) = false := by
      rw [List.all_eq_false]
      exact ⟨x, List.mem_of_getElem? HX.out, by rw [HRR.out]; simp⟩
     rw [Unt.okB, h2]; simp)
    go_wp2_with fail
    go_ret
    exact ⟨rfl, Below.next HB1.out HW2.out⟩
   | true =>
    have HA2 := Lib.hid (show (u.consts.take (j + 1)).all (fun x => Dat.right x 0) = true from by
     rw [List.take_add_one, HX.out, List.all_append, HA.out]
     simp [HRR.out])
    go_wp2_with fail
    go_roundg (nk - (j + 1))
    case measure => omega
    case rel => exact ⟨j + 1, rfl, by omega, by go_num, HA2, HW2⟩
  ·obtain rfl : j = nk := by omega
   have HOK := Lib.hid (show u.okB = Unt.procsB j np u.procs 0 from by
    have h2 := HA.out
    rw [List.take_of_length_le (by rw [← HNK.out]; exact Nat.le_refl _)] at h2
    rw [Unt.okB, h2, ← HNP.out, ← HNK.out, decide_eq_true (show 1 ≤ (np : Int) by omega), decide_eq_true (show (np : Int) ≤ 1000 by omega)]; simp)
   clear hjl
   go_wp2_with fail
   go_loopg [4, 5] np (fun G a i wq => ∃ (t : Nat) (all : Int), G = np - t ∧ t ≤ np ∧ a = .int .i64 all ∧ i = .int .i64 t ∧ 0 ≤ all ∧ all ≤ 50000 ∧ Hid (Unt.procsB j np u.procs 0 = Unt.procsB j np (u.procs.drop t) all) ∧ Hid (Below W1.heap.size W1 wq))
   case atStart => exact ⟨0, 0, rfl, by omega, rfl, rfl, by omega, by omega, rfl, HW⟩
   case round =>
    obtain ⟨t, all, rfl, ht, rfl, rfl, ha0, ha1, HS, HWq⟩ := hrel
    clear HW HWW U0 U1 hul
    have U0 := (HU.out.keep HWq.out).cell 0 rfl
    have U1 := (HU.out.keep HWq.out).cell 1 rfl
    have hul := (HU.out.keep HWq.out).lt
    have HWW := Lib.hid (Below.next HB1.out HWq.out)
    by_cases htl : t < np
    ·obtain ⟨p, hx⟩ : ∃ p, u.procs[t]? = some p := ⟨_, List.getElem?_eq_getElem (by rw [← HNP.out]; exact htl)⟩
     obtain ⟨b1, off1, cs, ho1, hbB, hcl, hcell, hpr⟩ := HP.out.at (HWW.out.mono hB) hx
     subst ho1
     have HSTEP := Lib.hid (HS.out.trans (procsB_step hx))
     have HLP := Lib.hid (HLS.out p (List.mem_of_getElem? hx))
     obtain ⟨args, rest, regs, code, alive⟩ := p
     obtain ⟨sl, al, rfl, hbargs, hbregs, hcode, halive⟩ := hpr
     obtain ⟨oc, n, cc, rfl, hn, hcapc, hmaxc⟩ := hcode.slice
     obtain ⟨oa, la, ca, rfl⟩ := halive.form
     dsimp only at hn hbargs hbregs HSTEP hcode HLP
     have e0 := hcell 0 _ rfl
     have e1 := hcell 1 _ rfl
     have e2 := hcell 2 _ rfl
     have e3 := hcell 3 _ rfl
     have e4 := hcell 4 _ rfl
     rw [Nat.add_zero] at e0
     have HN := Lib.hid hn
     have HCODE := Lib.hid hcode
     have hbl1 := cell_lt e0
     clear hx hcell hcl hcode halive hn
     have HLN := Lib.hid (show (code.length : Int) = n from by rw [HN.out])
     obtain ⟨q1, hq1⟩ : ∃ q1, (!Unt.headB ⟨args, rest, regs, code, alive⟩) = q1 := ⟨_, rfl⟩
     have HQ1 := Lib.hid hq1
     clear hq1
     obtain ⟨W2, hW2⟩ : ∃ W2, wr.alloc (.cells #[.int .i64 args, .bool rest, .int .i64 regs, .slice oc n cc, .slice oa la ca] 31) = W2 := ⟨_, rfl⟩
     have HPB := Lib.hid (show BoxL W2 wr.heap.size 31 [.int .i64 args, .bool rest, .int .i64 regs, .slice oc n cc, .slice oa la ca] from by rw [← hW2]; exact BoxL.new rfl _ _)
     have HWW2 := Lib.hid (show Below w.heap.size w W2 from Below.next HWW.out (by rw [← hW2]; exact Below.one wr _))
     have HWQ2 := Lib.hid (show Below W1.heap.size W1 W2 from Below.next HWq.out (by rw [← hW2]; exact Below.one wr _))
     have HW2E := Lib.hid hW2
     clear hW2
     go_upto_region 13 with fail
     rw [HW2E.out]
     have q0 := HPB.out.cell 0 rfl
     have qq1 := HPB.out.cell 1 rfl
     have q2 := HPB.out.cell 2 rfl
     have q3 := HPB.out.cell 3 rfl
     have hpl := HPB.out.lt
     clear e0 e1 e2 e3 e4 U0 U1 hul
     go_cut [80] (fun c wx => c = .bool q1 ∧ W2 = wx)
     case first => as_aux_lemma =>
      by_cases h1 : args < 0
      ·obtain rfl : q1 = true := by rw [← HQ1.out]; simp [Unt.headB, h1]
       have d1 : decide (args < 0) = true := decide_eq_true h1
       go_wp2_with fail
       go_meet
       exact ⟨rfl, rfl⟩
      have d1 : decide (args < 0) = false := decide_eq_false h1
      by_cases h2 : regs < args
      ·obtain rfl : q1 = true := by rw [← HQ1.out]; simp [Unt.headB, h2]
       have d2 : decide (regs < args) = true := decide_eq_true h2
       go_wp2_with fail
       go_meet
       exact ⟨rfl, rfl⟩
      have d2 : decide (regs < args) = false := decide_eq_false h2
      by_cases h3 : 20000 < regs
      ·obtain rfl : q1 = true := by rw [← HQ1.out]; simp [Unt.headB, h3]
       have d3 : decide (20000 < regs) = true := decide_eq_true h3
       go_wp2_with fail
       go_meet
       exact ⟨rfl, rfl⟩
      have d3 : decide (20000 < regs) = false := decide_eq_false h3
      by_cases h4 : rest = true ∧ args = 0
      ·obtain ⟨rfl, rfl⟩ := h4
       obtain rfl : q1 = true := by rw [← HQ1.out]; simp [Unt.headB]
       go_wp2_with fail
       go_meet
       exact ⟨rfl, rfl⟩
      by_cases h5 : n = 0
      ·subst h5
       obtain rfl : q1 = true := by rw [← HQ1.out]; have := HLN.out; simp [Unt.headB, this]
       cases rest with
       | true =>
        have h4' : (args == 0) = false := by simpa using fun h => h4 ⟨rfl, h⟩
        go_wp2_with fail
        go_meet
        exact ⟨rfl, rfl⟩
       | false =>
        go_wp2_with fail
        go_meet
        exact ⟨rfl, rfl⟩
      have d5 : ((n : Int) == 0) = false := by simpa using h5
      obtain rfl : q1 = decide ((50000 : Int) < (n : Int)) := by
       have hra : (rest && decide (args = 0)) = false := by cases rest <;> simp; intro h; exact h4 ⟨rfl, h⟩
       rw [← HQ1.out]
       simp only [Unt.headB, decide_eq_false h1, decide_eq_false h2, decide_eq_false h3, hra, HLN.out]; simp; omega
      cases rest with
      | true =>
       have h4' : (args == 0) = false := by simpa using fun h => h4 ⟨rfl, h⟩
       go_wp2_with fail
       go_meet
       exact ⟨rfl, rfl⟩
      | false =>
       go_wp2_with fail
       go_meet
       exact ⟨rfl, rfl⟩
     case rest =>
     obtain ⟨rfl, rfl⟩ := hcut
     have hpl := HPB.out.lt
     cases q1 with
     | true =>
      obtain rfl : E = 5 := HNO.out (by
       have h : Unt.headB ⟨args, rest, regs, code, alive⟩ = false := by simpa using HQ1.out
       rw [HOK.out, HSTEP.out, h]; rfl)
      go_wp2_with fail
      go_ret
      exact ⟨rfl, HWW2.out⟩
     | false =>
      have HH := Lib.hid (show Unt.headB ⟨args, rest, regs, code, alive⟩ = true from by simpa using HQ1.out)
      have hh := HH.out
      simp only [Unt.headB, Bool.not_eq_true', Bool.or_eq_false_iff, decide_eq_false_iff_not] at hh
      obtain ⟨hh1, hh2, hh3, _, hh5, hh6⟩ := hh
      rw [HLN.out] at hh5 hh6
      have hn1 : 1 ≤ n := by omega
      have hn5 : n ≤ 50000 := by omega
      have hreg0 : 0 ≤ regs := by omega
      obtain ⟨x, hx⟩ : ∃ x, code[n - 1]? = some x := ⟨_, List.getElem?_eq_getElem (by rw [← HN.out]; omega)⟩
      obtain ⟨bc, offc, ds, hoc, hbc, hdl, hdcell, hins⟩ := HCODE.out.at (HWW2.out.mono hB) hx
      subst hoc
      obtain ⟨kk, dd, aa, bb, ll⟩ := x
      obtain ⟨sl, rfl, hbk, _, _, _, _⟩ := hins
      have k0 := hdcell 0 _ rfl
      rw [Nat.add_zero] at k0
      dsimp only at k0 hbk
      have HLO := Lib.hid (show Unt.lastOp code = kk from lastOp_at HN.out hx)
      have hkl := cell_lt k0
      obtain ⟨q2, hq2⟩ : ∃ q2, (decide ((50000 : Int) < all + n) || !Unt.lastB kk) = q2 := ⟨_, rfl⟩
      have HQ2 := Lib.hid hq2
      clear hx hdcell hdl hq2 hh1 hh2 hh3 hh5 hh6
      go_upto_region 17 with fail
      go_cut [108] (fun c wx => c = .bool q2 ∧ W2 = wx)
      case first => as_aux_lemma =>
       by_cases h7 : 50000 < all + n
       ·obtain rfl : q2 = true := by rw [← HQ2.out]; simp [h7]
        have d7 : decide ((50000 : Int) < all + n) = true := decide_eq_true h7
        go_wp2_with fail
        go_meet
        exact ⟨rfl, rfl⟩
       have d7 : decide ((50000 : Int) < all + n) = false := decide_eq_false h7
       by_cases h15 : kk = 15
       ·subst h15
        obtain rfl : q2 = false := by rw [← HQ2.out, d7]; rfl
        go_wp2_with fail
        go_meet
        exact ⟨rfl, rfl⟩
       have e15 : (kk != 15) = true := by simpa using h15
       by_cases h19 : kk < 19
       ·have e19 : decide (kk < 19) = true := decide_eq_true h19
        obtain rfl : q2 = true := by rw [← HQ2.out, d7]; simp [Unt.lastB, h15]; omega
        go_wp2_with fail
        go_meet
        exact ⟨rfl, rfl⟩
       have e19 : decide (kk < 19) = false := decide_eq_false h19
       obtain rfl : q2 = decide (22 < kk) := by
        rw [← HQ2.out, d7, Bool.eq_iff_iff]; simp [Unt.lastB, h15]; omega
       go_wp2_with fail
       go_meet
       exact ⟨rfl, rfl⟩
      case rest =>
      obtain ⟨rfl, rfl⟩ := hcut
      have HEND3 := Lib.hid (show (∀ h : q2 = true, E = 5) from fun h => HNO.out (by
       have h1 := HQ2.out
       rw [h, Bool.or_eq_true] at h1
       rw [HOK.out, HSTEP.out, HLN.out, HLO.out, HH.out]
       rcases h1 with h1 | h1
       ·rw [show decide (all + (n : Int) ≤ 50000) = false from decide_eq_false (by simpa using h1)]; simp
       ·rw [show Unt.lastB kk = false from by simpa using h1]; simp))
      cases q2 with
      | true =>
       obtain rfl : E = 5 := HEND3.out rfl
       go_wp2_with fail
       go_ret
       exact ⟨rfl, HWW2.out⟩
      | false =>
       have HQ3 := Lib.hid (show all + n ≤ 50000 ∧ Unt.lastB kk = true from by
        have h1 := HQ2.out
        rw [Bool.or_eq_false_iff] at h1
        have h2 := of_decide_eq_false h1.1
        exact ⟨by omega, by simpa using h1.2⟩)
       have hq31 := HQ3.out.1
       have HEND4 := Lib.hid (show (∀ h : code.all (fun x => Unt.fits x regs n np j) = false, E = 5) from fun h => HNO.out (by
        rw [HOK.out, HSTEP.out, HLN.out, HLO.out, HH.out, HQ3.out.2, h]; simp))
       have HZ0 := Lib.hid (show (code.take 0).all (fun x => Unt.fits x regs n np j) = true from rfl)
       have HZW := Lib.hid (Below.refl W2.heap.size W2)
       clear k0 hkl
       go_wp2_with fail
       go_loopg [8] n (fun G i ws => ∃ z : Nat, G = n - z ∧ z ≤ n ∧ i = .int .i64 z ∧ Hid ((code.take z).all (fun x => Unt.fits x regs n np j) = true) ∧ Hid (Below W2.heap.size W2 ws))
       case atStart => exact ⟨0, rfl, by omega, rfl, HZ0, HZW⟩
       case round =>
        obtain ⟨z, rfl, hz, rfl, HZ, HWs⟩ := hrel
        clear HZ0 HZW q0 qq1 q2 q3 hpl
        have q0 := (HPB.out.keep HWs.out).cell 0 rfl
        have qq1 := (HPB.out.keep HWs.out).cell 1 rfl
        have q2 := (HPB.out.keep HWs.out).cell 2 rfl
        have q3 := (HPB.out.keep HWs.out).cell 3 rfl
        have q4 := (HPB.out.keep HWs.out).cell 4 rfl
        have hpl := (HPB.out.keep HWs.out).lt
        have HWW3 := Lib.hid (Below.next HWW2.out HWs.out)
        have HWQ3 := Lib.hid (Below.next HWQ2.out HWs.out)
        have U0 := (HU.out.keep HWQ3.out).cell 0 rfl
        have U1 := (HU.out.keep HWQ3.out).cell 1 rfl
        have hul := (HU.out.keep HWQ3.out).lt
        by_cases hzn : z < n
        ·obtain ⟨y, hy⟩ : ∃ y, code[z]? = some y := ⟨_, List.getElem?_eq_getElem (by rw [← HN.out]; exact hzn)⟩
         obtain ⟨b7, off7, cs7, ho7, hb7, hcl7, hcell7, hins7⟩ := HCODE.out.at (HWW3.out.mono hB) hy
         simp only [Option.some.injEq, Addr.mk.injEq, and_true] at ho7
         obtain ⟨rfl, rfl⟩ := ho7
         have hyl := HLP.out (by rw [← HN.out]; exact hn5) y (List.mem_of_getElem? hy)
         obtain ⟨r, hr⟩ : ∃ r, Unt.fits y regs n np j = r := ⟨_, rfl⟩
         have HR := Lib.hid hr
         have HY := Lib.hid hy
         match cs7, hcl7 with
         | [y0, y1, y2, y3, y4], _ =>
          have p0 := hcell7 0 _ rfl
          have p1 := hcell7 1 _ rfl
          have p2 := hcell7 2 _ rfl
          have p3 := hcell7 3 _ rfl
          have p4 := hcell7 4 _ rfl
          rw [Nat.add_zero] at p0
          obtain ⟨yo, yd, ya, yb, yl⟩ := y
          obtain ⟨sy, he, g1, g2, g3, g4, hsy⟩ := hins7
          obtain ⟨oy, ly, cy, rfl⟩ := hsy.form
          simp only [List.cons.injEq, and_true] at he
          obtain ⟨rfl, rfl, rfl, rfl, rfl⟩ := he
          dsimp only at g1 g2 g3 g4 hyl
          have hIN := fun (V : World) (hV : V = wr.drew) => ins_to yo yd ya yb yl oy ly cy args regs rest (some ⟨bc, offc, none⟩) oa ok (some ⟨b1, off1, none⟩) n cc la ca j ck np cp B V g1 g2 g3 g4 (hsy.kept (by rw [hV]; exact (HWW3.out.mono hB).drew) fun _ _ _ h => h) (by rw [hV]; have := HWW3.out.size; show B ≤ wr.heap.size; omega) hyl r (by rw [Unt.ins_fits _ _ _ _ _ hreg0]; exact hr)
          have HIN := Lib.hid hIN
          have hpl7 := cell_lt p0
          clear hcell7 hcl7 hsy hy hr hIN
          go_upto_region 22 with fail
          refine wp_region_quiet_class (fun V => V = wr.drew) 7 (by kernel_rfl) (by kernel_rfl) rfl ?_
          intro T _ Wd HWd HWd2
          have m0 := fun s => cell_q (HWd s) p0
          have m1 := fun s => cell_q (HWd s) p1
          have m2 := fun s => cell_q (HWd s) p2
          have m3 := fun s => cell_q (HWd s) p3
          have m4 := fun s => cell_q (HWd s) p4
          have r0 := fun s => cell_q (HWd s) q0
          have r1 := fun s => cell_q (HWd s) qq1
          have r2 := fun s => cell_q (HWd s) q2
          have r3 := fun s => cell_q (HWd s) q3
          have r4 := fun s => cell_q (HWd s) q4
          have s0 := fun s => cell_q (HWd s) U0
          have s1 := fun s => cell_q (HWd s) U1
          have HWH := Lib.hid HWd
          clear HWd HWd2
          simp only [List.take_succ_cons, List.take_zero, List.drop_succ_cons, List.drop_zero]
          repeat (go_big_quiet_step (fail))
          refine wpQuiet_nil ?_
          intro s
          go_wp2_with fail
          refine (HIN.out _ (HWH.out s)).mono ?_
          rintro e w5 ⟨rfl, hb5'⟩
          have hb6 : Below wr.heap.size wr w5 := by rw [HWH.out s] at hb5'; exact (Below.refl wr.heap.size wr).drew.trans hb5'
          have HW5 := Lib.hid (Below.next HWs.out hb6)
          clear hb5' hb6 HIN m0 m1 m2 m3 m4 r0 r1 r2 r3 r4 s0 s1 p0 p1 p2 p3 p4
          cases r with
          | false =>
           obtain rfl : E = 5 := HEND4.out (by
            rw [List.all_eq_false]
            exact ⟨_, List.mem_of_getElem? HY.out, by rw [HR.out]; simp⟩)
           go_wp2_with fail
           go_ret
           exact ⟨rfl, Below.next HWW2.out HW5.out⟩
          | true =>
           have HZ2 := Lib.hid (show (code.take (z + 1)).all (fun x => Unt.fits x regs n np j) = true from by
            rw [List.take_add_one, HY.out, List.all_append, HZ.out]
            simp [HR.out])
           go_wp2_with fail
           go_roundg (n - (z + 1))
           case measure => omega
           case rel => exact ⟨z + 1, rfl, by omega, by go_num, HZ2, HW5⟩
        ·obtain rfl : z = n := by omega
         have HPN := Lib.hid (show Unt.procsB j np u.procs 0 = Unt.procsB j np (u.procs.drop (t + 1)) (all + z) from by
          have h1 := HZ.out
          rw [List.take_of_length_le (by rw [← HN.out]; exact Nat.le_refl _)] at h1
          rw [HSTEP.out, HLN.out, HLO.out, HH.out, HQ3.out.2, h1, decide_eq_true HQ3.out.1]; simp)
         go_wp2_with fail
         go_roundg (np - (t + 1))
         case measure => omega
         case rel => exact ⟨t + 1, all + z, rfl, by omega, rfl, by go_num, by omega, by omega, HPN, HWQ3⟩
    ·obtain rfl : t = np := by omega
     have HT := Lib.hid (show u.okB = true from by rw [HOK.out, HS.out, List.drop_eq_nil_of_le (by rw [← HNP.out]; exact Nat.le_refl _)]; rfl)
     obtain rfl : E = 0 := by rw [← HE.out, err_ok HT.out]
     go_wp2_with fail
     go_ret
     exact ⟨rfl, HWW.out⟩
end
section
open Go.RowKit
theorem short_lists {u : Unt} (h : Live.Short u) : ∀ p ∈ u.procs, p.code.length ≤ 50000 → ∀ x ∈ p.code, x.l.length ≤ 1000000 := fun p hp _ x hx => Nat.le_trans ((h p hp).2 x hx) (by decide)
theorem begin16_any (u : Unt) (v : Value) (n : Int) (B : Nat) (w : World) (hv : UntR w B u v) (hB : B ≤ w.heap.size) (hs : Live.Short u) :
  Calls Tryz.prog 50 #[v, .int .i64 n] w fun e w' => ∃ sv, e = .returned (.tuple #[sv, .int .i64 (Live.wrongE u n)]) ∧ SlC w' w'.heap.size 1 IntR (Live.beginL u n) sv ∧ Below w.heap.size w w' := by
 obtain ⟨r, hr⟩ : ∃ r, Live.wrongE u n = r := ⟨_, rfl⟩
 rw [hr]
 have HV := Lib.hid hv
 obtain ⟨cv, pv, rfl, hc, hp⟩ := hv
 obtain ⟨op, np, cp, rfl, hnp, hcapp, hmaxp⟩ := hp.slice
 obtain ⟨ok, nk, ck, rfl, hcx⟩ := hc
 clear hcx
 have HC := Lib.hid (fun X => rcheck_any u _ B (w.alloc X) (HV.out.kept ((Below.one w X).mono hB)) (by simp; omega) (short_lists hs))
 have BU0 := Lib.hid (BoxL.new (W := w) rfl 25 [.slice ok nk ck, .slice op np cp])
 obtain ⟨E, hE⟩ : ∃ E, u.err = E := ⟨_, rfl⟩
 rw [hE] at HC
 by_cases h0 : r = 0
 ·subst h0
  obtain ⟨hok, i, p, rfl, hpi⟩ := Live.wrongE_zero hr
  rw [Unt.err, hok] at hE
  obtain rfl : (0 : Int) = E := hE
  obtain ⟨R, hR, hR2, hcode⟩ := Live.unit_ok hok hs hpi
  have hsh := hs p (List.mem_of_getElem? hpi)
  have HLL := Lib.hid (Live.beginL_at hr hpi)
  have hin : i < np := by rw [hnp]; exact (List.getElem?_eq_some_iff.1 hpi).1
  have HPI := Lib.hid hpi
  have HP := Lib.hid hp
  have HCO := Lib.hid hcode
  obtain ⟨ll, hll⟩ : ∃ ll, Live.beginL u (i : Int) = ll := ⟨_, rfl⟩
  rw [hll] at HLL ⊢
  have fi0 : decide ((i : Int) < 0) = false := decide_eq_false (by omega)
  have fi1 : decide (np ≤ i) = false := decide_eq_false (by omega)
  clear hll hr hpi hp hcode hnp hs
  go_enter Tryz.func50, Tryz.ntmps50
  go_wp2_with fail
  refine (HC.out _).mono ?_
  rintro e w1 ⟨rfl, hb1⟩
  have HB1 := Lib.hid (one_below hb1)
  have BU := Lib.hid (BU0.out.keep hb1)
  have u1 := BU.out.cell 1 rfl
  have hlt1 := BU.out.lt
  obtain ⟨b1, off1, cs, ho1, hbB, hcl, hcell, hpr⟩ := HP.out.at (HB1.out.mono hB) HPI.out
  subst ho1
  match cs, hcl with
  | [d0, d1, d2, d3, d4], _ =>
   have e0 := hcell 0 _ rfl
   have e1 := hcell 1 _ rfl
   have e2 := hcell 2 _ rfl
   have e3 := hcell 3 _ rfl
   have e4 := hcell 4 _ rfl
   rw [Nat.add_zero] at e0
   have hs1 := HB1.out.size
   have HF := Lib.hid (show SlC (w1.alloc (.cells [.int .i64 (0 : Int)].toArray 3)) (w1.alloc (.cells [.int .i64 (0 : Int)].toArray 3)).heap.size 1 IntR ([0].map fun (t : Nat) => (t : Int)) (.slice (some ⟨w1.heap.size, 0, none⟩) 1 1) from intsNew (l := [0]) rfl (by simp) 3 (by simp [I64]) 1 rfl (by omega))
   have HLV := Lib.hid (live16_any p d0 d1 d2 d3 d4 B R [0] (.slice (some ⟨w1.heap.size, 0, none⟩) 1 1) (w1.alloc (.cells [.int .i64 (0 : Int)].toArray 3)) (hpr.kept ((HB1.out.mono hB).trans ((Below.one w1 _).mono (by omega)))) (by simp; omega) hR hR2 HCO.out hsh.1 HF.out (fun t ht => by have h0 : t = 0 := (by simpa using ht); rw [h0]; exact HCO.out.2.2.2.1.1) (by decide))
   obtain ⟨args, rest, regs, code, alive⟩ := p
   obtain ⟨sl, al, he, _, _, hsl, hal⟩ := hpr
   obtain ⟨oc, m, cc, rfl⟩ := hsl.form
   obtain ⟨oal, lal, cal, rfl⟩ := hal.form
   simp only [List.cons.injEq, and_true] at he
   obtain ⟨rfl, rfl, rfl, rfl, rfl⟩ := he
   dsimp only at hR
   subst hR
   have hbl := cell_lt e0
   have HLE := Lib.hid (show ll = Live.live code R [0] from HLL.out)
   clear hcell hcl hsl hal hb1 HC HF hsh
   go_wp2_with fail
   refine HLV.out.mono ?_
   rintro e w2 ⟨sv, rfl, hio, hb2⟩
   have HE2 := Lib.hid (show SlC w2 w2.heap.size 1 IntR ll sv from by
    obtain ⟨sl, he, h1, h2⟩ := hio
    simp only [List.cons.injEq, and_true] at he
    subst he
    rw [HLE.out]
    exact rowInts h1 h2)
   have HB2 := Lib.hid (Below.next HB1.out (one_below hb2))
   clear hio hb2 HLV
   go_wp2_with fail
   go_ret2
   exact ⟨_, rfl, HE2.out, HB2.out⟩
 ·have HA := Lib.hid (show Live.beginL u n = [] from by rw [Live.beginL, if_neg (by rw [hr]; exact h0)])
  rw [HA.out]
  have HNP := Lib.hid hnp
  have HR := Lib.hid hr
  clear hr hp hs hnp
  cases hq : u.okB with
  | false =>
   rw [Unt.err, hq] at hE
   obtain rfl : (5 : Int) = E := hE
   obtain rfl : (5 : Int) = r := by rw [← HR.out, Live.wrongE, hq]; rfl
   clear hq
   go_enter Tryz.func50, Tryz.ntmps50
   go_wp2_with fail
   refine (HC.out _).mono ?_
   rintro e w1 ⟨rfl, hb1⟩
   have HB1 := Lib.hid (one_below hb1)
   clear hb1 HC
   go_wp2_with fail
   go_ret2
   exact ⟨_, rfl, ints_nil _ _, HB1.out⟩
  | true =>
   rw [Unt.err, hq] at hE
   obtain rfl : (0 : Int) = E := hE
   have hbad : n < 0 ∨ (np : Int) ≤ n := by
    refine Classical.byContradiction fun h => h0 ?_
    rw [← HR.out, Live.wrongE, hq, ← HNP.out, if_neg (by simp), if_neg h]
   obtain rfl : (1 : Int) = r := by rw [← HR.out, Live.wrongE, hq, ← HNP.out, if_neg (by simp), if_pos hbad]
   clear hq h0
   go_enter Tryz.func50, Tryz.ntmps50
   go_wp2_with fail
   refine (HC.out _).mono ?_
   rintro e w1 ⟨rfl, hb1⟩
   have HB1 := Lib.hid (one_below hb1)
   have BU := Lib.hid (BU0.out.keep hb1)
   have u1 := BU.out.cell 1 rfl
   have hlt1 := BU.out.lt
   clear hb1 HC
   by_cases hn0 : n < 0
   ·have f0 : decide (n < 0) = true := decide_eq_true hn0
    clear hbad
    go_wp2_with fail
    all_goals go_ret2
    all_goals exact ⟨_, rfl, ints_nil _ _, HB1.out⟩
   ·have f0 : decide (n < 0) = false := decide_eq_false hn0
    have f1 : decide ((np : Int) ≤ n) = true := decide_eq_true (by omega)
    clear hbad
    go_wp2_with fail
    all_goals go_ret2
    all_goals exact ⟨_, rfl, ints_nil _ _, HB1.out⟩
end
section
open Go.RowKit
end
section
open Go.RowKit
end
end Go.Proofs.YtigkhmppnnljiaaGreatDoor

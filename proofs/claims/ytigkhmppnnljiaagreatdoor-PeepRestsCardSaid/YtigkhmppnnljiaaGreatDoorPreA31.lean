/-
  What the proofs lean on: RT0, ChkM, MkI, Zb.
-/
import Derived.Deep.LoopGhost
import Derived.Deep.DeepCutAuto
import Derived.Deep.RegionWith
import Derived.Deep.RegionLaw
import Derived.Test.YtigkhmppnnljiaaGreatDoorPreA10
import Derived.Test.YtigkhmppnnljiaaGreatDoorPreA12
import Derived.Test.YtigkhmppnnljiaaGreatDoorPreA14
import Derived.Test.YtigkhmppnnljiaaGreatDoorPreA18
import Derived.Test.YtigkhmppnnljiaaGreatDoorPreA21
import Derived.Test.YtigkhmppnnljiaaGreatDoorPreA24
import Derived.Test.YtigkhmppnnljiaaGreatDoorPreA30
set_option maxRecDepth 100000
set_option maxHeartbeats 16000000
namespace Go.Proofs.YtigkhmppnnljiaaGreatDoor
section
open Go Go.RowKit
theorem rhas_any (l : List Int) (sl : Value) (v : Int) (B : Nat) (w : World) (hv : SlC w B 1 IntR l sl) (_hB : B ≤ w.heap.size) (r : Bool) (hr : l.contains v = r) :
  Calls Tryz.prog 116 #[sl, .int .i64 v] w fun e w' => e = .returned (.bool r) ∧ Below w.heap.size w w' := by
 obtain ⟨o, n, c, rfl⟩ := hv.form
 obtain ⟨hn, hc, hm⟩ := hv.lens
 have HV := Lib.hid hv
 have HN := Lib.hid hn
 have HR := Lib.hid hr
 clear hv hn hr
 go_enter Tryz.func116, Tryz.ntmps116
 go_wp2_with fail
 go_loopg [5] n (fun g i wr => ∃ j : Nat, g = n - j ∧ j ≤ n ∧ i = .int .i64 j ∧ Hid (∀ (i : Nat) (x : Int), i < j → l[i]? = some x → x ≠ v) ∧ w = wr)
 case atStart => exact ⟨0, rfl, by omega, rfl, Lib.hid (fun i x h => absurd h (by omega)), rfl⟩
 case round =>
  obtain ⟨j, rfl, hj, rfl, HA, rfl⟩ := hrel
  by_cases hjl : j < n
  ·obtain ⟨x, hx⟩ : ∃ x, l[j]? = some x := ⟨_, List.getElem?_eq_getElem (by rw [← HN.out]; exact hjl)⟩
   obtain ⟨xb, xoff, hxo, hxb, hxc, hxi⟩ := SlC.int HV.out hx
   subst hxo
   have hxl := cell_lt hxc
   have HX := Lib.hid hx
   clear hx hxi
   by_cases hq : x = v
   ·have q : (x == v) = true := by simp [hq]
    obtain rfl : r = true := by
     rw [← HR.out, List.contains_iff_mem, ← hq]
     exact List.mem_of_getElem? HX.out
    clear hq
    go_wp2_with fail
    go_ret
    exact ⟨rfl, Below.refl _ _⟩
   ·have q : (x == v) = false := by simp [hq]
    have HA2 := Lib.hid (show ∀ (i : Nat) (y : Int), i < j + 1 → l[i]? = some y → y ≠ v from fun i y hi hy => by
     by_cases h : i = j
     ·subst h
      obtain rfl : x = y := Option.some.inj (HX.out.symm.trans hy)
      exact hq
     ·exact HA.out i y (by omega) hy)
    clear hq
    go_wp2_with fail
    go_roundg (n - (j + 1))
    case measure => omega
    case rel => exact ⟨j + 1, rfl, by omega, by go_num, HA2, rfl⟩
  ·obtain rfl : r = false := by
    rw [← HR.out]
    cases h : l.contains v with
    | false => rfl
    | true =>
     obtain ⟨i, hi⟩ := List.getElem?_of_mem (List.contains_iff_mem.1 h)
     have := (List.getElem?_eq_some_iff.1 hi).1
     exact absurd rfl (HA.out i v (by have := HN.out; omega) hi)
   go_wp2_with fail
   go_ret
   exact ⟨rfl, Below.refl _ _⟩
theorem rsorts_0 (w : World) : Calls Tryz.prog 113 #[.int .i64 0, .int .i64 3] w fun e w' => e = .returned (.bool true) ∧ Below w.heap.size w w' := by
 go_enter Tryz.func113, Tryz.ntmps113
 go_wp2_with fail
 go_ret
 exact ⟨rfl, Below.refl _ _⟩
theorem rsorts_1 (w : World) : Calls Tryz.prog 113 #[.int .i64 1, .int .i64 3] w fun e w' => e = .returned (.bool true) ∧ Below w.heap.size w w' := by
 go_enter Tryz.func113, Tryz.ntmps113
 go_wp2_with fail
 go_ret
 exact ⟨rfl, Below.refl _ _⟩
theorem rsorts_2 (w : World) : Calls Tryz.prog 113 #[.int .i64 2, .int .i64 3] w fun e w' => e = .returned (.bool false) ∧ Below w.heap.size w w' := by
 go_enter Tryz.func113, Tryz.ntmps113
 go_wp2_with fail
 go_ret
 exact ⟨rfl, Below.refl _ _⟩
theorem rsorts_3 (w : World) : Calls Tryz.prog 113 #[.int .i64 3, .int .i64 3] w fun e w' => e = .returned (.bool true) ∧ Below w.heap.size w w' := by
 go_enter Tryz.func113, Tryz.ntmps113
 go_wp2_with fail
 go_ret
 exact ⟨rfl, Below.refl _ _⟩
theorem rsorts_4 (w : World) : Calls Tryz.prog 113 #[.int .i64 4, .int .i64 3] w fun e w' => e = .returned (.bool false) ∧ Below w.heap.size w w' := by
 go_enter Tryz.func113, Tryz.ntmps113
 go_wp2_with fail
 go_ret
 exact ⟨rfl, Below.refl _ _⟩
theorem rsorts_5 (w : World) : Calls Tryz.prog 113 #[.int .i64 5, .int .i64 3] w fun e w' => e = .returned (.bool true) ∧ Below w.heap.size w w' := by
 go_enter Tryz.func113, Tryz.ntmps113
 go_wp2_with fail
 go_ret
 exact ⟨rfl, Below.refl _ _⟩
theorem rsorts_6 (w : World) : Calls Tryz.prog 113 #[.int .i64 6, .int .i64 3] w fun e w' => e = .returned (.bool true) ∧ Below w.heap.size w w' := by
 go_enter Tryz.func113, Tryz.ntmps113
 go_wp2_with fail
 go_ret
 exact ⟨rfl, Below.refl _ _⟩
theorem rsorts_7 (w : World) : Calls Tryz.prog 113 #[.int .i64 7, .int .i64 3] w fun e w' => e = .returned (.bool false) ∧ Below w.heap.size w w' := by
 go_enter Tryz.func113, Tryz.ntmps113
 go_wp2_with fail
 go_ret
 exact ⟨rfl, Below.refl _ _⟩
theorem rsorts_8 (w : World) : Calls Tryz.prog 113 #[.int .i64 8, .int .i64 3] w fun e w' => e = .returned (.bool true) ∧ Below w.heap.size w w' := by
 go_enter Tryz.func113, Tryz.ntmps113
 go_wp2_with fail
 go_ret
 exact ⟨rfl, Below.refl _ _⟩
theorem rsorts_9 (w : World) : Calls Tryz.prog 113 #[.int .i64 9, .int .i64 3] w fun e w' => e = .returned (.bool true) ∧ Below w.heap.size w w' := by
 go_enter Tryz.func113, Tryz.ntmps113
 go_wp2_with fail
 go_ret
 exact ⟨rfl, Below.refl _ _⟩
theorem rsorts_10 (w : World) : Calls Tryz.prog 113 #[.int .i64 10, .int .i64 3] w fun e w' => e = .returned (.bool true) ∧ Below w.heap.size w w' := by
 go_enter Tryz.func113, Tryz.ntmps113
 go_wp2_with fail
 go_ret
 exact ⟨rfl, Below.refl _ _⟩
theorem rsorts_11 (w : World) : Calls Tryz.prog 113 #[.int .i64 11, .int .i64 3] w fun e w' => e = .returned (.bool true) ∧ Below w.heap.size w w' := by
 go_enter Tryz.func113, Tryz.ntmps113
 go_wp2_with fail
 go_ret
 exact ⟨rfl, Below.refl _ _⟩
theorem rsorts_12 (w : World) : Calls Tryz.prog 113 #[.int .i64 12, .int .i64 3] w fun e w' => e = .returned (.bool true) ∧ Below w.heap.size w w' := by
 go_enter Tryz.func113, Tryz.ntmps113
 go_wp2_with fail
 go_ret
 exact ⟨rfl, Below.refl _ _⟩
theorem rsorts_13 (w : World) : Calls Tryz.prog 113 #[.int .i64 13, .int .i64 3] w fun e w' => e = .returned (.bool true) ∧ Below w.heap.size w w' := by
 go_enter Tryz.func113, Tryz.ntmps113
 go_wp2_with fail
 go_ret
 exact ⟨rfl, Below.refl _ _⟩
theorem rsorts_14 (w : World) : Calls Tryz.prog 113 #[.int .i64 14, .int .i64 3] w fun e w' => e = .returned (.bool false) ∧ Below w.heap.size w w' := by
 go_enter Tryz.func113, Tryz.ntmps113
 go_wp2_with fail
 go_ret
 exact ⟨rfl, Below.refl _ _⟩
theorem rsorts_15 (w : World) : Calls Tryz.prog 113 #[.int .i64 15, .int .i64 3] w fun e w' => e = .returned (.bool true) ∧ Below w.heap.size w w' := by
 go_enter Tryz.func113, Tryz.ntmps113
 go_wp2_with fail
 go_ret
 exact ⟨rfl, Below.refl _ _⟩
theorem rsorts_16 (w : World) : Calls Tryz.prog 113 #[.int .i64 16, .int .i64 3] w fun e w' => e = .returned (.bool true) ∧ Below w.heap.size w w' := by
 go_enter Tryz.func113, Tryz.ntmps113
 go_wp2_with fail
 go_ret
 exact ⟨rfl, Below.refl _ _⟩
theorem rsorts_17 (w : World) : Calls Tryz.prog 113 #[.int .i64 17, .int .i64 3] w fun e w' => e = .returned (.bool true) ∧ Below w.heap.size w w' := by
 go_enter Tryz.func113, Tryz.ntmps113
 go_wp2_with fail
 go_ret
 exact ⟨rfl, Below.refl _ _⟩
theorem rsorts_18 (w : World) : Calls Tryz.prog 113 #[.int .i64 18, .int .i64 3] w fun e w' => e = .returned (.bool true) ∧ Below w.heap.size w w' := by
 go_enter Tryz.func113, Tryz.ntmps113
 go_wp2_with fail
 go_ret
 exact ⟨rfl, Below.refl _ _⟩
theorem rsorts_19 (w : World) : Calls Tryz.prog 113 #[.int .i64 19, .int .i64 3] w fun e w' => e = .returned (.bool true) ∧ Below w.heap.size w w' := by
 go_enter Tryz.func113, Tryz.ntmps113
 go_wp2_with fail
 go_ret
 exact ⟨rfl, Below.refl _ _⟩
theorem rsorts_20 (w : World) : Calls Tryz.prog 113 #[.int .i64 20, .int .i64 3] w fun e w' => e = .returned (.bool true) ∧ Below w.heap.size w w' := by
 go_enter Tryz.func113, Tryz.ntmps113
 go_wp2_with fail
 go_ret
 exact ⟨rfl, Below.refl _ _⟩
theorem rsorts_21 (w : World) : Calls Tryz.prog 113 #[.int .i64 21, .int .i64 3] w fun e w' => e = .returned (.bool true) ∧ Below w.heap.size w w' := by
 go_enter Tryz.func113, Tryz.ntmps113
 go_wp2_with fail
 go_ret
 exact ⟨rfl, Below.refl _ _⟩
theorem rsorts_22 (w : World) : Calls Tryz.prog 113 #[.int .i64 22, .int .i64 3] w fun e w' => e = .returned (.bool true) ∧ Below w.heap.size w w' := by
 go_enter Tryz.func113, Tryz.ntmps113
 go_wp2_with fail
 go_ret
 exact ⟨rfl, Below.refl _ _⟩
theorem rsorts_no (n : Int) (h : n < 0 ∨ 22 < n) (w : World) : Calls Tryz.prog 113 #[.int .i64 n, .int .i64 3] w fun e w' => e = .returned (.bool false) ∧ Below w.heap.size w w' := by
 have f0 : (n == 0) = false := by simp; omega
 have f1 : (n == 1) = false := by simp; omega
 have f2 : (n == 2) = false := by simp; omega
 have f3 : (n == 3) = false := by simp; omega
 have f4 : (n == 4) = false := by simp; omega
 have f5 : (n == 5) = false := by simp; omega
 have f6 : (n == 6) = false := by simp; omega
 have f7 : (n == 7) = false := by simp; omega
 have f8 : (n == 8) = false := by simp; omega
 have f9 : (n == 9) = false := by simp; omega
 have f10 : (n == 10) = false := by simp; omega
 have f11 : (n == 11) = false := by simp; omega
 have f12 : (n == 12) = false := by simp; omega
 have f13 : (n == 13) = false := by simp; omega
 have f14 : (n == 14) = false := by simp; omega
 have f15 : (n == 15) = false := by simp; omega
 have f16 : (n == 16) = false := by simp; omega
 have f17 : (n == 17) = false := by simp; omega
 have f18 : (n == 18) = false := by simp; omega
 have f19 : (n == 19) = false := by simp; omega
 have f20 : (n == 20) = false := by simp; omega
 have f21 : (n == 21) = false := by simp; omega
 have f22 : (n == 22) = false := by simp; omega
 clear h
 go_enter Tryz.func113, Tryz.ntmps113
 go_wp2_with fail
 go_ret
 exact ⟨rfl, Below.refl _ _⟩
theorem rsorts_any (n : Int) (w : World) : Calls Tryz.prog 113 #[.int .i64 n, .int .i64 3] w fun e w' => e = .returned (.bool (Trm.sortB n)) ∧ Below w.heap.size w w' := by
 by_cases ho : n < 0 ∨ 22 < n
 ·rw [show Trm.sortB n = false from by simp [Trm.sortB]; omega]
  exact rsorts_no n ho w
 have hop : n = 0 ∨ n = 1 ∨ n = 2 ∨ n = 3 ∨ n = 4 ∨ n = 5 ∨ n = 6 ∨ n = 7 ∨ n = 8 ∨ n = 9 ∨ n = 10 ∨ n = 11 ∨ n = 12 ∨ n = 13 ∨ n = 14 ∨ n = 15 ∨ n = 16 ∨ n = 17 ∨ n = 18 ∨ n = 19 ∨ n = 20 ∨ n = 21 ∨ n = 22 := by omega
 clear ho
 rcases hop with rfl | rfl | rfl | rfl | rfl | rfl | rfl | rfl | rfl | rfl | rfl | rfl | rfl | rfl | rfl | rfl | rfl | rfl | rfl | rfl | rfl | rfl | rfl
 ·exact rsorts_0 w
 ·exact rsorts_1 w
 ·exact rsorts_2 w
 ·exact rsorts_3 w
 ·exact rsorts_4 w
 ·exact rsorts_5 w
 ·exact rsorts_6 w
 ·exact rsorts_7 w
 ·exact rsorts_8 w
 ·exact rsorts_9 w
 ·exact rsorts_10 w
 ·exact rsorts_11 w
 ·exact rsorts_12 w
 ·exact rsorts_13 w
 ·exact rsorts_14 w
 ·exact rsorts_15 w
 ·exact rsorts_16 w
 ·exact rsorts_17 w
 ·exact rsorts_18 w
 ·exact rsorts_19 w
 ·exact rsorts_20 w
 ·exact rsorts_21 w
 ·exact rsorts_22 w
end
section
open Go Go.RowKit
def Mdl.all (m : Mdl) : Nat := m.body.all + (m.codes.map fun c => c.body.all).sum
theorem codesB_step {nc nk : Int} {c : Cod} {l : List Cod} {_b lj : List Int} (hl : Trm.newB (fun _ => false) lj = true) : Mdl.codesB nc nk (c :: l) (setOf lj) = ((!c.rest || decide (0 < c.v.length)) && (Trm.newB (fun _ => false) (lj ++ c.v ++ c.body.bnd) && (c.body.wf nc nk true (Trm.addV (fun _ => false) c.v) && Mdl.codesB nc nk l (setOf (lj ++ c.v ++ c.body.bnd))))) := by
 rw [Mdl.codesB, List.append_assoc, Trm.newB_append (a := lj), hl, Bool.true_and]
 unfold setOf
 simp only [Trm.addV_append]
theorem sum_take_le : ∀ (l : List Nat) (j : Nat) (x : Nat), l[j]? = some x → (l.take j).sum + x ≤ l.sum
 | [], j, x, h => by simp at h
 | y :: l, 0, x, h => by
  simp only [List.getElem?_cons_zero, Option.some.injEq] at h
  subst h
  simp
 | y :: l, j + 1, x, h => by
  have := sum_take_le l j x (by simpa using h)
  simp only [List.take_succ_cons, List.sum_cons]
  omega
theorem sum_all_take (l : List Cod) (j : Nat) (c : Cod) (h : l[j]? = some c) : ((l.take (j + 1)).map fun c => c.body.all).sum = ((l.take j).map fun c => c.body.all).sum + c.body.all ∧ ((l.take j).map fun c => c.body.all).sum + c.body.all ≤ (l.map fun c => c.body.all).sum := by
 constructor
 ·rw [List.take_add_one, h]
  simp
 ·have := sum_take_le (l.map fun c => c.body.all) j c.body.all (by simp [h])
  rwa [List.map_take]
theorem codR_open {W : World} {B : Nat} {c : Cod} {cs : List Value} (h : CodR W B c cs) : ∃ ov lv cv q r u q' r' u', cs = [.slice ov lv cv, .bool c.rest, .int .i64 c.body.op, .int .i64 c.body.n, .slice q r u, .slice q' r' u'] ∧ SlC W B 1 IntR c.v (.slice ov lv cv) ∧ TrmR W B c.body [.int .i64 c.body.op, .int .i64 c.body.n, .slice q r u, .slice q' r' u'] := by
 obtain ⟨vs, b0, b1, b2, b3, rfl, h1, h2⟩ := h
 obtain ⟨q, r, u, q', r', u', rfl, rfl, rfl, rfl, _⟩ := TrmR.shape h2
 obtain ⟨ov, lv, cv, rfl⟩ := h1.form
 exact ⟨_, _, _, _, _, _, _, _, _, rfl, h1, h2⟩
end
section
open Go Go.RowKit Mk
theorem allT_room {lk : List (Int × Int) → Int → Int} (hl : Mk.LkOk lk) : ∀ (l : List Trm) (s : MSt) (k : Nat), Room s (k + (6 * Trm.allL l - l.length)) → Room (Mk.allT lk l s).2 k
 | [], s, k, h => by rw [Mk.allT]; exact h.mono (by omega)
 | x :: l, s, k, h => by
  have hk := Trm.allL_length l
  have hx := x.all_pos
  simp only [Trm.allL, List.length_cons] at h
  rw [Mk.allT]
  exact allT_room hl l _ k (Room.had hl x (Room.into hl x) (h.mono (k' := k + (6 * Trm.allL l - l.length) + (6 * x.all - 1)) (by omega))).1
end
section
open Go Go.RowKit Mk
theorem row_turn {W W' : World} {S : Nat → Prop} {base n size : Nat} {e : TypeId} {v : Value} {xs : List Value} (h : W.ownsRow base e size v n xs) (ht : Turned S W W') (hn : ∀ b, v.ownBlock = some b → ¬ S b) : W'.ownsRow base e size v n xs := row_same h fun c hc => ht.block c (ownBlock_lt h hc) (hn c hc)
theorem app_turn {W w3 : World} {X : Obj} {r : Option Nat} (hg : (W.alloc X).grownBy w3 r) : Turned (fun b => r = some b) W w3 := (Turned.of_below (Below.one W X)).next (Turned.grown hg (fun _ h => h))
theorem zbind_mid {W w3 : World} {B base mb g cap : Nat} {K : KV} {X : Nat → Prop} {s : MSt} {O : Obj} {xs : List Value} (h : ZkIn W B base mb K X s) (hg : (W.alloc O).grownBy w3 K.v.ownBlock) (_ho : w3.ownsRow base 3 1 (.slice (some ⟨g, 0, none⟩) (s.vars.length + 1) cap) (s.vars.length + 1) xs) :
  BoxL w3 mb 119 [K.c, .int .i64 s.regs, K.v, K.a] ∧ BoxL (w3.setCell ⟨mb, 2, none⟩ (.slice (some ⟨g, 0, none⟩) (s.vars.length + 1) cap)) mb 119 [K.c, .int .i64 s.regs, .slice (some ⟨g, 0, none⟩) (s.vars.length + 1) cap, K.a] ∧
   (w3.setCell ⟨mb, 2, none⟩ (.slice (some ⟨g, 0, none⟩) (s.vars.length + 1) cap)).ownsRow base 3 1 K.a s.vars.length (s.vars.map fun p => Value.int .i64 p.2) ∧ Turned (fun b => b = mb ∨ K.v.ownBlock = some b) W (w3.setCell ⟨mb, 2, none⟩ (.slice (some ⟨g, 0, none⟩) (s.vars.length + 1) cap)) := by
 have T1 := app_turn hg
 have b3 := T1.box h.st.box (fun e => row_box_ne h.st.vars e h.st.box (by decide) rfl)
 have T2 : Turned (fun b => b = mb) w3 (w3.setCell ⟨mb, 2, none⟩ (.slice (some ⟨g, 0, none⟩) (s.vars.length + 1) cap)) := Turned.set _ _ _ rfl
 have r3 := row_turn h.st.regs T1 (fun b hb e => h.st.ne b e hb)
 refine ⟨b3, b3.set 2 _, row_turn r3 T2 (fun b hb e => row_box_ne r3 hb b3 (by decide) e), (T1.wider fun b _ h => .inr h).next (T2.wider fun b _ h => .inl h)⟩
theorem zbind_end {W w3 w7 : World} {B base mb g cap g2 cap2 : Nat} {K : KV} {X : Nat → Prop} {s : MSt} {O O2 : Obj} {v r : Int} (h : ZkIn W B base mb K X s) (hv : I64 v) (hr : I64 r) (hg : (W.alloc O).grownBy w3 K.v.ownBlock) (ho : w3.ownsRow base 3 1 (.slice (some ⟨g, 0, none⟩) (s.vars.length + 1) cap) (s.vars.length + 1) ((s.vars.map fun p => Value.int .i64 p.1) ++ ([.int .i64 v] : List Value))) (hl : K.v.ownBlock = some g ∨ g = W.heap.size + 1)
  (hg2 : ((w3.setCell ⟨mb, 2, none⟩ (.slice (some ⟨g, 0, none⟩) (s.vars.length + 1) cap)).alloc O2).grownBy w7 K.a.ownBlock) (ho2 : w7.ownsRow base 3 1 (.slice (some ⟨g2, 0, none⟩) (s.vars.length + 1) cap2) (s.vars.length + 1) ((s.vars.map fun p => Value.int .i64 p.2) ++ ([.int .i64 r] : List Value))) (hl2 : K.a.ownBlock = some g2 ∨ g2 = w3.heap.size + 1) :
  BoxL w7 mb 119 [K.c, .int .i64 s.regs, .slice (some ⟨g, 0, none⟩) (s.vars.length + 1) cap, K.a] ∧ ZkGo B base mb K ⟨K.c, .slice (some ⟨g, 0, none⟩) (s.vars.length + 1) cap, .slice (some ⟨g2, 0, none⟩) (s.vars.length + 1) cap2⟩ X (s.bind [v] [r]) W (w7.setCell ⟨mb, 3, none⟩ (.slice (some ⟨g2, 0, none⟩) (s.vars.length + 1) cap2)) := by
 obtain ⟨b3, b4, r4, T4⟩ := zbind_mid h hg ho
 obtain ⟨W4, hW4⟩ : ∃ W4, w3.setCell ⟨mb, 2, none⟩ (.slice (some ⟨g, 0, none⟩) (s.vars.length + 1) cap) = W4 := ⟨_, rfl⟩
 have hz34 : w3.heap.size = W4.heap.size := by rw [← hW4, World.size_setCell]
 have v4 : W4.ownsRow base 3 1 (.slice (some ⟨g, 0, none⟩) (s.vars.length + 1) cap) (s.vars.length + 1) ((s.vars.map fun p => Value.int .i64 p.1) ++ ([.int .i64 v] : List Value)) := by
  rw [← hW4]
  exact row_turn ho (Turned.set (S := fun b => b = mb) _ _ _ rfl) (fun b hb e => row_box_ne ho hb b3 (by decide) e)
 rw [hW4] at b4 r4 T4 hg2
 have hgl : g < W4.heap.size := ownBlock_lt v4 rfl
 have hW0 := T4.size
 have hgnew : g < W.heap.size → K.v.ownBlock = some g := fun hb => hl.elim id fun e => by omega
 have hne2 : ∀ b, K.a.ownBlock = some b → b ≠ g := fun b hb e => by
  subst e
  rcases hl with hl | hl
  ·exact h.st.ne b hl hb
  ·have := ownBlock_lt h.st.regs hb
   omega
 have T5 : Turned (fun b => K.a.ownBlock = some b) W4 w7 := app_turn hg2
 have b7 := T5.box b4 (fun e => row_box_ne r4 e b4 (by decide) rfl)
 have T7 : Turned (fun b => b = mb) w7 (w7.setCell ⟨mb, 3, none⟩ (.slice (some ⟨g2, 0, none⟩) (s.vars.length + 1) cap2)) := Turned.set _ _ _ rfl
 refine ⟨b7, ?_⟩
 have v7 := row_turn v4 T5 (fun b hb e => hne2 b e (by simpa [Value.ownBlock] using hb.symm))
 have T : Turned (fun b => b = mb ∨ K.v.ownBlock = some b ∨ K.a.ownBlock = some b) W (w7.setCell ⟨mb, 3, none⟩ (.slice (some ⟨g2, 0, none⟩) (s.vars.length + 1) cap2)) := ((T4.wider fun b _ h => h.imp id .inl).next (T5.wider fun b _ h => .inr (.inr h))).next (T7.wider fun b _ h => .inl h)
 have hTZ : Turned (SZ mb K) W (w7.setCell ⟨mb, 3, none⟩ (.slice (some ⟨g2, 0, none⟩) (s.vars.length + 1) cap2)) := T.wider fun b _ h => h.elim .inl fun h => .inr (.inr h)
 have hless : ∀ b, b < W.heap.size → SZ mb ⟨K.c, .slice (some ⟨g, 0, none⟩) (s.vars.length + 1) cap, .slice (some ⟨g2, 0, none⟩) (s.vars.length + 1) cap2⟩ b → SZ mb K b := fun b hb hs => by
  rcases hs with hs | hs | hs | hs
  ·exact .inl hs
  ·exact .inr (.inl hs)
  ·have e : g = b := by simpa [Value.ownBlock] using hs
   subst e
   exact .inr (.inr (.inl (hgnew hb)))
  ·have e : g2 = b := by simpa [Value.ownBlock] using hs
   subst e
   rcases hl2 with h2 | h2
   ·exact .inr (.inr (.inr h2))
   ·omega
 obtain ⟨xs, hr0, hc0⟩ := h.st.row
 have hbv : (s.bind [v] [r]).vars = s.vars ++ [(v, r)] := rfl
 refine ⟨⟨⟨b7.set 3 _, ⟨xs, row_turn hr0 T (fun b hb hs => ?_), hc0.mono fun x _ cs hx => hx.kept hTZ (fun _ _ h => .inl h) (fun b hb h => h.imp (hless b hb) id)⟩, ?_, ?_, fun b hb hb2 => ?_, fun p hp => ?_⟩, h.b1, h.b2, Nat.le_trans h.b4 T.size, fun b hb => Nat.lt_of_lt_of_le (h.bx b hb) T.size⟩, hTZ, hless, hTZ.below h.low h.size⟩
 ·rcases hs with hs | hs | hs
  ·exact row_box_ne hr0 hb h.st.box (by decide) hs
  ·exact row_row_ne hr0 hb h.st.vars hs (by decide) rfl
  ·exact row_row_ne hr0 hb h.st.regs hs (by decide) rfl
 ·rw [hbv, List.length_append, List.map_append]
  exact row_turn v7 T7 (fun b hb e => row_box_ne v7 hb b7 (by decide) e)
 ·rw [hbv, List.length_append, List.map_append]
  exact row_turn ho2 T7 (fun b hb e => row_box_ne ho2 hb b7 (by decide) e)
 ·have e1 : g = b := by simpa [Value.ownBlock] using hb
  have e2 : g2 = b := by simpa [Value.ownBlock] using hb2
  subst e1
  rcases hl2 with h2 | h2
  ·exact hne2 g2 h2 e2
  ·omega
 ·rw [hbv] at hp
  rcases List.mem_append.1 hp with hp | hp
  ·exact h.st.i64 p hp
  ·rw [List.mem_singleton.1 hp]
   exact ⟨hv, hr⟩
theorem zbind_any {B base mb : Nat} {K : KV} {X : Nat → Prop} {s : MSt} (v r : Int) (W : World) (h : ZkIn W B base mb K X s) (hn : s.vars.length ≤ 2000000) (hv : I64 v) (hr : I64 r) :
  Calls Tryz.prog 75 #[.pointer (some ⟨mb, 0, none⟩), .int .i64 v, .int .i64 r] W fun e w' => e = .returned (.tuple #[]) ∧ ∃ K', ZkGo B base mb K K' X (s.bind [v] [r]) W w' := by
 obtain ⟨ov, cv, hkv⟩ := own_form h.st.vars
 obtain ⟨oa, ca, hka⟩ := own_form h.st.regs
 obtain ⟨oc, cc, hkc⟩ : ∃ oc cc, K.c = .slice oc s.code.length cc := by obtain ⟨xs, hr, _⟩ := h.st.row; exact own_form hr
 obtain ⟨i0, hi0, hz0, hz1, hz2⟩ := info_parts info_int
 have HH := Lib.hid h
 have HV := Lib.hid h.st.vars
 have bx := h.st.box
 rw [hkv, hka, hkc] at bx
 have x2 := bx.cell 2 rfl
 have xz := bx.free 2
 have xl := bx.lt
 have b4 := h.b4
 have HKV := Lib.hid hkv
 have HKA := Lib.hid hka
 have HKC := Lib.hid hkc
 have HI := Lib.hid hv
 have HJ := Lib.hid hr
 clear h hkv hka hkc bx hv hr
 go_enter Tryz.func75, Tryz.ntmps75
 go_wp2_with (at_builtin; refine wpList_append_lies _ rfl (.tmp 10) (.tmp 12) 32 rfl base 3 i0 (.int .i64 0) 1 8 Tryz.underlying32 hi0 hz0 hz1 hz2 rfl (by decide) (.slice ov s.vars.length cv) s.vars.length _ rfl ((HKV.out ▸ HV.out).alloc _) ⟨W.heap.size, 0, none⟩ 1 1 [.int .i64 v] rfl rfl (new_cells W _ _) (by intro u hu; simp only [List.mem_cons, List.not_mem_nil, or_false] at hu; subst hu; rfl) (by decide) (by unfold maxLen; omega) (by omega) (by simp; omega) (W.heap.size + 1) (by simp) ?_)
 intro g cap w3 hown hgrow hlie hglt
 rw [← HKV.out] at hgrow hlie
 obtain ⟨b3, b4', r4, T4⟩ := zbind_mid HH.out hgrow hown
 have HG := Lib.hid hgrow
 have HO := Lib.hid hown
 have HL := Lib.hid hlie
 have HB4 := Lib.hid b4'
 have HR4 := Lib.hid r4
 have hz4 := T4.size
 rw [HKC.out, HKV.out, HKA.out] at b3
 rw [HKC.out, HKA.out] at b4'
 have y2 := b3.cell 2 rfl
 have yz := b3.free 2
 have yl := b3.lt
 clear hgrow hlie hown b3 r4 T4 x2 xz xl
 go_upto_region 1 with fail
 obtain ⟨W4, hW4⟩ : ∃ W4, w3.setCell ⟨mb, 2, none⟩ (.slice (some ⟨g, 0, none⟩) (s.vars.length + 1) cap) = W4 := ⟨_, rfl⟩
 rw [hW4] at hz4 b4' ⊢
 have HW4 := Lib.hid hW4
 have hr4 := HR4.out
 rw [hW4, HKA.out] at hr4
 have HR5 := Lib.hid hr4
 have x3 := b4'.cell 3 rfl
 have xz := b4'.free 3
 have xl := b4'.lt
 clear y2 yz yl hW4 hr4 b4'
 go_wp2_with (at_builtin; refine wpList_append_lies _ rfl (.tmp 20) (.tmp 22) 32 rfl base 3 i0 (.int .i64 0) 1 8 Tryz.underlying32 hi0 hz0 hz1 hz2 rfl (by decide) (.slice oa s.vars.length ca) s.vars.length _ rfl (HR5.out.alloc _) ⟨W4.heap.size, 0, none⟩ 1 1 [.int .i64 r] rfl rfl (new_cells W4 _ _) (by intro u hu; simp only [List.mem_cons, List.not_mem_nil, or_false] at hu; subst hu; rfl) (by decide) (by unfold maxLen; omega) (by omega) (by simp; omega) (W4.heap.size + 1) (by simp) ?_)
 intro g2 cap2 w7 hown2 hgrow2 hlie2 hglt2
 rw [← HKA.out] at hgrow2 hlie2
 have he := zbind_end HH.out HI.out HJ.out HG.out HO.out HL.out (HW4.out ▸ hgrow2) hown2 (by rw [← HW4.out] at hlie2; simpa using hlie2)
 have b7 := he.1
 rw [HKC.out, HKA.out] at b7
 have HE := Lib.hid he.2
 have y3 := b7.cell 3 rfl
 have yz := b7.free 3
 have yl := b7.lt
 clear hgrow2 hlie2 hown2 he b7 x3 xz xl
 go_wp2_with fail
 go_end0
 exact ⟨rfl, _, HE.out⟩
end
end Go.Proofs.YtigkhmppnnljiaaGreatDoor

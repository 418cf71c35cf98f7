/-
  What the proofs lean on: Sl, Rights, Rows2, Facts, RRight.
-/
import Derived.Laws.EntriesVeiled
import Derived.Laws.AppendOwn
import Derived.Laws.OwnMore
import Derived.Test.YtigkhmppnnljiaaGreatDoorPreA03
import Derived.Test.YtigkhmppnnljiaaGreatDoorPreA04
import Derived.Test.YtigkhmppnnljiaaGreatDoorPreA05
import Derived.Test.YtigkhmppnnljiaaGreatDoorPreA07
import Derived.Test.YtigkhmppnnljiaaGreatDoorPreA08
set_option maxRecDepth 100000
set_option maxHeartbeats 16000000
namespace Go.Proofs.YtigkhmppnnljiaaGreatDoor
section
open Go.RowKit Go.Deep Go.ChangeShapes Go.WideShapes Go.ChangeAt
def SlC {α : Type} (w : World) (B size : Nat) (R : α → List Value → Prop) (l : List α) (v : Value) : Prop :=
 ∃ (o : Option Addr) (len cap : Nat), v = .slice o len cap ∧ len = l.length ∧ len ≤ cap ∧ cap ≤ 9223372036854775807 ∧
  (match o with
   | none => l = [] ∧ cap = 0
   | some a => (l ≠ [] → a.spot = none ∧ a.block < B) ∧ ∀ (i : Nat) (x : α), l[i]? = some x → ∃ cs : List Value, cs.length = size ∧ (∀ j u, cs[j]? = some u → w.cell? ⟨a.block, a.off + i * size + j, none⟩ = some u) ∧ R x cs)
theorem SlC.kept {α : Type} {w w' : World} {B size : Nat} {R R' : α → List Value → Prop} {l : List α} {v : Value} (h : SlC w B size R l v) (hb : Below B w w') (hR : ∀ x ∈ l, ∀ cs, R x cs → R' x cs) : SlC w' B size R' l v := by
 obtain ⟨o, len, cap, rfl, h1, h2, h3, h4⟩ := h
 refine ⟨o, len, cap, rfl, h1, h2, h3, ?_⟩
 cases o with
 | none => exact h4
 | some a =>
  refine ⟨h4.1, fun i x hx => ?_⟩
  obtain ⟨cs, hl, hc, hr⟩ := h4.2 i x hx
  have hlt := (h4.1 (by intro h; rw [h] at hx; simp at hx)).2
  exact ⟨cs, hl, fun j u hu => (hb.cell (p := ⟨a.block, _, none⟩) hlt).trans (hc j u hu), hR x (List.mem_of_getElem? hx) cs hr⟩
theorem SlC.wider {α : Type} {w : World} {B B' size : Nat} {R : α → List Value → Prop} {l : List α} {v : Value} (h : SlC w B size R l v) (hB : B ≤ B') : SlC w B' size R l v := by
 obtain ⟨o, len, cap, rfl, h1, h2, h3, h4⟩ := h
 refine ⟨o, len, cap, rfl, h1, h2, h3, ?_⟩
 cases o with
 | none => exact h4
 | some a => exact ⟨fun hl => ⟨(h4.1 hl).1, Nat.lt_of_lt_of_le (h4.1 hl).2 hB⟩, h4.2⟩
theorem SlC.slice {α : Type} {w : World} {B size : Nat} {R : α → List Value → Prop} {l : List α} {v : Value} (h : SlC w B size R l v) : ∃ o len cap, v = .slice o len cap ∧ len = l.length ∧ len ≤ cap ∧ cap ≤ 9223372036854775807 := by
 obtain ⟨o, len, cap, h1, h2, h3, h4, _⟩ := h
 exact ⟨o, len, cap, h1, h2, h3, h4⟩
theorem SlC.at {α : Type} {w wr : World} {B size : Nat} {R : α → List Value → Prop} {l : List α} {o : Option Addr} {len cap j : Nat} {x : α} (h : SlC w B size R l (.slice o len cap)) (hb : Below B w wr) (hx : l[j]? = some x) :
  ∃ b off cs, o = some ⟨b, off, none⟩ ∧ b < B ∧ cs.length = size ∧ (∀ q u, cs[q]? = some u → wr.cell? ⟨b, off + j * size + q, none⟩ = some u) ∧ R x cs := by
 obtain ⟨o2, len2, cap2, he, _, _, _, h4⟩ := h
 simp only [Value.slice.injEq] at he
 obtain ⟨rfl, rfl, rfl⟩ := he
 cases o with
 | none => rw [h4.1] at hx; simp at hx
 | some a =>
  obtain ⟨cs, hl, hc, hr⟩ := h4.2 j x hx
  obtain ⟨hs, hlt⟩ := h4.1 (by intro h; rw [h] at hx; simp at hx)
  obtain ⟨b, off, sp⟩ := a
  obtain rfl : sp = none := hs
  exact ⟨b, off, cs, rfl, hlt, hl, fun q u hu => (hb.cell (p := ⟨b, off + j * size + q, none⟩) hlt).trans (hc q u hu), hr⟩
section
variable {H : Type} {enc : TypeId × Value → H}
theorem list_choice {α : Type} {len : Nat} {P : Nat → α → Prop} (h : ∀ i, i < len → ∃ x, P i x) : ∃ l : List α, l.length = len ∧ ∀ i x, l[i]? = some x → P i x := by
 induction len with
 | zero => exact ⟨[], rfl, fun i x hx => by simp at hx⟩
 | succ n ih =>
  obtain ⟨l, hl, hP⟩ := ih (fun i hi => h i (by omega))
  obtain ⟨x, hx⟩ := h n (by omega)
  refine ⟨l ++ [x], by simp [hl], fun i y hy => ?_⟩
  by_cases hi : i < n
  ·rw [List.getElem?_append_left (by omega)] at hy
   exact hP i y hy
  ·rw [List.getElem?_append_right (by omega)] at hy
   have : i = n := by
    have := (List.getElem?_eq_some_iff.1 hy).1
    simp at this; omega
   subst this
   simp [hl] at hy
   rw [← hy]; exact hx
theorem slC_of_trod {α : Type} {w : World} {ts te : TypeId} {size bs : Nat} (hu : Tryz.prog.underlying ts = some (.slice te)) (hcs : Tryz.prog.cellsOf te = size) (hbs : Tryz.prog.bytesOf te = bs) (hpos : 0 < size) (hbp : 0 < bs) {R : α → List Value → Prop}
  (hel : ∀ n' cs' y, DataW.trod enc Tryz.prog w 0 (fun _ => true) true n' te cs' = some y → (∀ n ∈ y.1.weights Tryz.prog te, n ≤ reachBytes) → ∃ x, R x cs')
  (fuel : Nat) (c4 : Value) (x4 : DataW H × List MemPlace) (g4 : DataW.trod enc Tryz.prog w 0 (fun _ => true) true fuel ts [c4] = some x4) (w4 : ∀ n ∈ x4.1.weights Tryz.prog ts, n ≤ reachBytes) : ∃ l : List α, SlC w w.heap.size size R l c4 := by
 rcases DataW.trod_slice hu g4 with ⟨e4, _⟩ | ⟨a, len, cap, elems, rest, n', rfl, e4, hx4, _, hle, _, hel2, hget4, hsp, _⟩
 ·have f4 : c4 = .slice none 0 0 := by simpa using e4
  subst f4
  exact ⟨[], none, 0, 0, rfl, rfl, by omega, by omega, rfl, rfl⟩
 ·have f4 : c4 = .slice (some a) len cap := by simpa using e4
  subst f4 hx4
  have hrest := (hsp rfl).1
  have hcap : cap ≤ 9223372036854775807 := by
   have := w4 ((elems.length + rest.length) * bs) (by simp [DataW.weights, hu, hbs])
   have h9 : (elems.length + rest.length) * bs ≤ 140737488351232 := this
   have h10 : (elems.length + rest.length) * 1 ≤ (elems.length + rest.length) * bs := Nat.mul_le_mul_left _ hbp
   omega
  by_cases h0 : len = 0
  ·subst h0
   exact ⟨[], some a, 0, cap, rfl, rfl, by omega, hcap, fun h => absurd rfl h, fun i x hx => by simp at hx⟩
  have hat : ∀ i (hi : i < len), ∃ cs', w.cells? 0 (a.add (i * size)) size = some cs' ∧ DataW.trod enc Tryz.prog w 0 (fun _ => true) true n' te cs' = some (elems[i]'(by omega)) := by
   intro i hi
   have hb := hget4 i hi
   rw [hcs, List.getElem?_eq_getElem (by omega)] at hb
   exact Option.bind_eq_some_iff.1 hb
  obtain ⟨hspot, hblk⟩ : a.spot = none ∧ a.block < w.heap.size := by
   obtain ⟨cs', hc1, _⟩ := hat 0 (by omega)
   obtain ⟨_, hl5, hcs⟩ := World.cells?_some hc1
   have h00 := hcs 0 (by omega)
   rw [List.getElem?_eq_getElem (by omega)] at h00
   have := cell_spot h00
   simpa [Addr.add] using this
  have hcell : ∀ i, i < len → ∃ x : α, ∃ cs : List Value, cs.length = size ∧ (∀ j u, cs[j]? = some u → w.cell? ⟨a.block, a.off + i * size + j, none⟩ = some u) ∧ R x cs := by
   intro i hi
   obtain ⟨cs', hc1, hc2⟩ := hat i hi
   obtain ⟨_, hl5, hcs⟩ := World.cells?_some hc1
   rw [add_none hspot] at hcs
   obtain ⟨x, hx⟩ := hel n' _ _ hc2 (fun q hq => w4 q (by
     simp only [DataW.weights, hu, List.mem_cons, List.mem_append]
     refine Or.inr (Or.inl (weightsAll_mem (d := (elems[i]'(by omega)).1) ?_ q hq))
     exact List.mem_map_of_mem (List.getElem_mem _)))
   refine ⟨x, cs', hl5, fun j u hj => ?_, hx⟩
   have hjl : j < size := by have := (List.getElem?_eq_some_iff.1 hj).1; omega
   have := hcs j hjl
   rw [add_none rfl] at this
   rw [← hj]; exact this
  obtain ⟨l, hl, hP⟩ := list_choice hcell
  exact ⟨l, some a, len, cap, rfl, hl.symm, hle, hcap, fun _ => ⟨hspot, hblk⟩, fun i x hx => hP i x hx⟩
end
def IntR (n : Int) (cs : List Value) : Prop := cs = [.int .i64 n] ∧ -9223372036854775808 ≤ n ∧ n ≤ 9223372036854775807
section
variable {H : Type} {enc : TypeId × Value → H}
end
end
section
open Go.RowKit
theorem any_take_succ {p : Dat → Bool} {l : List Dat} {j : Nat} {x : Dat} (hx : l[j]? = some x) (h : (l.take j).any p = false) (hp : p x = false) : (l.take (j + 1)).any p = false := by
 rw [List.take_add_one, hx]
 simp [h, hp]
theorem any_true {p : Dat → Bool} {l : List Dat} {j : Nat} {x : Dat} (hx : l[j]? = some x) (hp : p x = true) : l.any p = true :=
 List.any_eq_true.2 ⟨x, List.mem_of_getElem? hx, hp⟩
def IdxPost (b : Bool) (w : World) (e : Ending) (w' : World) : Prop := ∃ r : Int, e = .returned (.int .i64 r) ∧ decide (0 ≤ r) = b ∧ Below w.heap.size w w'
theorem indexFunc_any (F : FuncId) (caps : Array Value) (p : Dat → Bool) (l : List Dat) (o : Option Addr) (len cap : Nat) (B : Nat) (w : World) (hl : len = l.length) (hcap : len ≤ cap) (hmax : cap ≤ 9223372036854775807)
  (hv : match o with | none => l = [] ∧ cap = 0 | some a => (l ≠ [] → a.spot = none ∧ a.block < B) ∧ RepC w B l a.block a.off) (hB : B ≤ w.heap.size)
  (hF : ∀ (args : Array Value) (w : World), (callFunc F args).run Tryz.prog w = .ok (.enter F args) w)
  (H : ∀ x ∈ l, ∀ v w', RepD w' B x v → Below w.heap.size w w' → Calls Tryz.prog F (#[v] ++ caps) w' fun e w'' => e = .returned (.bool (p x)) ∧ Below w'.heap.size w' w'') :
  Calls Tryz.prog 54 #[.slice o len cap, .func (.func F) #[] caps] w (IdxPost (l.any p) w) := by
 obtain ⟨r, hr⟩ : ∃ r, l.any p = r := ⟨_, rfl⟩
 rw [hr]
 have HR := Lib.hid hr
 have HV := Lib.hid hv
 have HL := Lib.hid hl
 have HH := Lib.hid H
 clear hr hv hl H
 go_enter Tryz.func54, Tryz.ntmps54
 go_wp2
 go_loopw [8] (fun i wr => ∃ (j : Nat), i = .int .i64 j ∧ j ≤ len ∧ (l.take j).any p = false ∧ Below w.heap.size w wr) (fun i _ => len - (intOf i).toNat)
 case atStart => exact ⟨0, rfl, by omega, rfl, Below.refl _ _⟩
 case round =>
  obtain ⟨j, rfl, hj, hany, hb⟩ := hrel
  have HA := Lib.hid hany
  clear hany
  by_cases hjl : j < len
  ·obtain ⟨x, hx⟩ : ∃ x, l[j]? = some x := ⟨_, List.getElem?_eq_getElem (by rw [← HL.out]; exact hjl)⟩
   obtain ⟨b, off, k', n', d', s', l', o', len', cap', ho, hxe, e0, e1, e2, e3, e4, er⟩ := part_at2 HV.out (hb.mono hB) hx
   subst ho hxe
   have HC := Lib.hid (HH.out _ (List.mem_of_getElem? hx) _ wr er hb)
   have HX := Lib.hid hx
   clear hx er
   cases hp : p (.mk k' n' d' s' l') with
   | true =>
    rw [hp] at HC
    have HT := Lib.hid (any_true HX.out hp)
    clear hp
    go_wp2_with (first | ((with_reducible refine HC.out.mono ?_); rintro e' w1 ⟨rfl, hb1⟩))
    go_ret
    exact ⟨j, rfl, by rw [← HR.out, HT.out]; simp, Below.next hb hb1⟩
   | false =>
    rw [hp] at HC
    have HT := Lib.hid (any_take_succ HX.out HA.out hp)
    clear hp
    go_wp2_with (first | ((with_reducible refine HC.out.mono ?_); rintro e' w1 ⟨rfl, hb1⟩))
    go_roundw
    case rel => exact ⟨j + 1, by go_num, by omega, HT.out, Below.next hb hb1⟩
    case measure => simp [intOf]; omega
  ·have HF := Lib.hid (show l.any p = false by rw [← HA.out, List.take_of_length_le (by rw [← HL.out]; omega)])
   go_wp2
   go_ret
   exact ⟨-1, rfl, by rw [← HR.out, HF.out]; rfl, hb⟩
theorem containsFunc_any (F : FuncId) (caps : Array Value) (p : Dat → Bool) (r : Bool) (l : List Dat) (o : Option Addr) (len cap : Nat) (B : Nat) (w : World) (hl : len = l.length) (hcap : len ≤ cap) (hmax : cap ≤ 9223372036854775807)
  (hv : match o with | none => l = [] ∧ cap = 0 | some a => (l ≠ [] → a.spot = none ∧ a.block < B) ∧ RepC w B l a.block a.off) (hB : B ≤ w.heap.size)
  (hF : ∀ (args : Array Value) (w : World), (callFunc F args).run Tryz.prog w = .ok (.enter F args) w)
  (H : ∀ x ∈ l, ∀ v w', RepD w' B x v → Below w.heap.size w w' → Calls Tryz.prog F (#[v] ++ caps) w' fun e w'' => e = .returned (.bool (p x)) ∧ Below w'.heap.size w' w'') (hr : l.any p = r) :
  Calls Tryz.prog 29 #[.slice o len cap, .func (.func F) #[] caps] w fun e w' => e = .returned (.bool r) ∧ Below w.heap.size w w' := by
 have HI := Lib.hid (indexFunc_any F caps p l o len cap B w hl hcap hmax hv hB hF H)
 rw [hr] at HI
 clear hr hv hl H hF
 go_enter Tryz.func29, Tryz.ntmps29
 go_wp2_with (first | (go_at_call 54; refine HI.out.mono ?_; rintro e' w1 ⟨q, rfl, hq, hb⟩))
 subst hq
 go_ret
 exact ⟨by simp, hb⟩
theorem containsFunc_S (F : FuncId) (caps : Array Value) (p : Dat → Bool) (r : Bool) (l : List Dat) (sl : Value) (B : Nat) (w : World) (hv : RepS w B l sl) (hB : B ≤ w.heap.size)
  (hF : ∀ (args : Array Value) (w : World), (callFunc F args).run Tryz.prog w = .ok (.enter F args) w)
  (H : ∀ x ∈ l, ∀ v w', RepD w' B x v → Below w.heap.size w w' → Calls Tryz.prog F (#[v] ++ caps) w' fun e w'' => e = .returned (.bool (p x)) ∧ Below w'.heap.size w' w'') (hr : l.any p = r) :
  Calls Tryz.prog 29 #[sl, .func (.func F) #[] caps] w fun e w' => e = .returned (.bool r) ∧ Below w.heap.size w w' := by
 obtain ⟨o, len, cap, rfl, hl, hcap, hmax, hv⟩ := hv
 exact containsFunc_any F caps p r l o len cap B w hl hcap hmax hv hB hF H hr
end
section
open Go.RowKit
theorem heap_alloc_size (w : World) (A : Obj) : (w.alloc A).heap.size = w.heap.size + 1 := by simp
theorem box_cell2 (w : World) (A : Obj) (cs : Array Value) (t : TypeId) (i : Nat) {v : Value} (h : cs[i]? = some v) : ((w.alloc A).alloc (.cells cs t)).cell? ⟨w.heap.size + 1, i, none⟩ = some v := by
 have := box_cell (w.alloc A) cs t i h
 rw [heap_alloc_size] at this
 exact this
end
section
open Go.RowKit
theorem bare_any (k n d : Int) (s : ByteArray) (o : Option Addr) (len cap : Nat) (hn : -9223372036854775808 ≤ n ∧ n ≤ 9223372036854775807) (hd : -9223372036854775808 ≤ d ∧ d ≤ 9223372036854775807) (hs : s.size ≤ 140737488351232) :
  ∃ (k' n' d' : Int) (s' : ByteArray) (o' : Option Addr) (len' cap' : Nat) (b : Bool), (∀ w, Calls Tryz.prog 56 #[.agg #[.int .i64 k, .int .i64 n, .int .i64 d, .string s, .slice o len cap]] w fun e w' => e = .returned (.tuple #[.agg #[.int .i64 k', .int .i64 n', .int .i64 d', .string s', .slice o' len' cap'], .bool b]) ∧ Below w.heap.size w w') ∧
   Dat.head k n d s.data.toList len = (b && (decide (n' = n) && (decide (d' = d) && (decide (s' = s) && decide (len' = len))))) := by
 have hz : ∀ m : Int, decide (0 = m) = decide (m = 0) := fun m => by rw [Bool.eq_iff_iff]; simp only [decide_eq_true_eq]; exact eq_comm
 have hzl : ∀ m : Nat, decide (0 = m) = decide (m = 0) := fun m => by rw [Bool.eq_iff_iff]; simp only [decide_eq_true_eq]; exact eq_comm
 have he : decide ((⟨#[]⟩ : ByteArray) = s) = s.data.toList.isEmpty := by
  rw [Bool.eq_iff_iff]
  simp only [decide_eq_true_eq, List.isEmpty_iff]
  constructor
  ·rintro rfl; rfl
  ·intro h; apply ByteArray.ext; apply Array.ext'; rw [h]
 by_cases k0 : k = 0
 ·subst k0
  exact ⟨_, _, _, _, _, _, _, _, fun w => bare_0 n d s o len cap hn.1 hn.2 hd.1 hd.2 w, by rw [Dat.head, if_pos rfl, he, hzl]; simp⟩
 by_cases k1 : k = 1
 ·subst k1
  have hh : Dat.head 1 n d s.data.toList len = (decide (n = 0 ∨ n = 1) && (decide (n = n) && (decide (0 = d) && (decide ((⟨#[]⟩ : ByteArray) = s) && decide (0 = len))))) := by
   rw [Dat.head, if_neg (by omega), if_pos rfl, he, hzl, hz]; simp only [decide_true, Bool.true_and]; rw [← Bool.and_assoc, Bool.and_comm (decide (d = 0)), Bool.and_assoc]
  by_cases n0 : n = 0
  ·exact ⟨_, _, _, _, _, _, _, _, fun w => bare_1a n d s o len cap (by simp [n0]) w, by rw [hh, decide_eq_true (Or.inl n0)]⟩
  by_cases n1 : n = 1
  ·exact ⟨_, _, _, _, _, _, _, _, fun w => bare_1b n d s o len cap (by simp [n0]) (by simp [n1]) w, by rw [hh, decide_eq_true (Or.inr n1)]⟩
  ·exact ⟨_, _, _, _, _, _, _, _, fun w => bare_1c n d s o len cap (by simp [n0]) (by simp [n1]) w, by rw [hh, decide_eq_false (by omega : ¬ (n = 0 ∨ n = 1))]⟩
 have flip : ∀ a b c e : Bool, (a && (b && (c && e))) = (c && (b && (a && (true && e)))) := by decide
 by_cases k2 : k = 2
 ·subst k2
  exact ⟨_, _, _, _, _, _, _, _, fun w => bare_2 n d s o len cap hs w, by rw [Dat.head, if_neg (by omega), if_neg (by omega), if_pos rfl, hz, hz, hzl, decide_eq_true (rfl : s = s)]; exact flip _ _ _ _⟩
 by_cases k3 : k = 3
 ·subst k3
  exact ⟨_, _, _, _, _, _, _, _, fun w => bare_3 n d s o len cap hs w, by rw [Dat.head, if_neg (by omega), if_neg (by omega), if_neg (by omega), if_pos rfl, hz, hz, hzl, decide_eq_true (rfl : s = s)]; exact flip _ _ _ _⟩
 have flip2 : ∀ a b c e : Bool, (a && (b && (c && e))) = (true && (b && (a && (c && e)))) := by decide
 by_cases k4 : k = 4
 ·subst k4
  exact ⟨_, _, _, _, _, _, _, _, fun w => bare_4 n d s o len cap w, by rw [Dat.head, if_neg (by omega), if_neg (by omega), if_neg (by omega), if_neg (by omega), if_pos (by omega), hz, hz, hzl, he]; exact flip2 _ _ _ _⟩
 by_cases k5 : k = 5
 ·subst k5
  exact ⟨_, _, _, _, _, _, _, _, fun w => bare_5 n d s o len cap w, by rw [Dat.head, if_neg (by omega), if_neg (by omega), if_neg (by omega), if_neg (by omega), if_pos (by omega), hz, hz, hzl, he]; exact flip2 _ _ _ _⟩
 have flip3 : ∀ a b c e : Bool, (a && (b && (c && e))) = (e && (b && (a && (c && true)))) := by decide
 by_cases k6 : k = 6
 ·subst k6
  have hh : Dat.head 6 n d s.data.toList len = (decide (len = 2) && (decide (0 = n) && (decide (0 = d) && (decide ((⟨#[]⟩ : ByteArray) = s) && decide (len = len))))) := by
   rw [Dat.head, if_neg (by omega), if_neg (by omega), if_neg (by omega), if_neg (by omega), if_neg (by omega), if_pos rfl, hz, hz, he, decide_eq_true (rfl : len = len)]; exact flip3 _ _ _ _
  by_cases l2 : len = 2
  ·subst l2
   exact ⟨_, _, _, _, _, _, _, _, fun w => bare_6a n d s o cap w, by rw [hh]; rfl⟩
  ·exact ⟨_, _, _, _, _, _, _, _, fun w => bare_6b n d s o len cap (by simp; omega) w, by rw [hh, decide_eq_false l2]⟩
 have flip4 : ∀ a b c : Bool, (a && (b && c)) = (true && (b && (a && (c && true)))) := by decide
 by_cases k7 : k = 7
 ·subst k7
  exact ⟨_, _, _, _, _, _, _, _, fun w => bare_7 n d s o len cap w, by rw [Dat.head, if_neg (by omega), if_neg (by omega), if_neg (by omega), if_neg (by omega), if_neg (by omega), if_neg (by omega), if_pos rfl, hz, hz, he, decide_eq_true (rfl : len = len)]; exact flip4 _ _ _⟩
 ·exact ⟨_, _, _, _, _, _, _, _, fun w => bare_8 k n d s o len cap (by omega) w, by rw [Dat.head, if_neg k0, if_neg k1, if_neg k2, if_neg k3, if_neg (by omega), if_neg k6, if_neg k7]; rfl⟩
theorem rightL_any (l : List Dat) (deep : Nat) : Dat.rightL l deep = !(l.any fun x => !Dat.right x deep) := by
 induction l with
 | nil => rfl
 | cons x l ih => rw [Dat.rightL, ih, List.any_cons]; cases Dat.right x deep <;> simp
theorem right11_any (_x : Dat) (v : Value) (deep c pb : Nat) (w : World) (r : Bool) (hfn : w.cell? ⟨c, 0, none⟩ = some (.func (.func 55) #[] #[.pointer (some ⟨c, 0, none⟩)])) (hpb : w.cell? ⟨pb, 0, none⟩ = some (.int .i64 deep)) (hdeep : deep ≤ 200) (hc : c < w.heap.size) (hp : pb < w.heap.size)
  (hv : ∃ (k n d : Int) (s : ByteArray) (o : Option Addr) (len cap : Nat), v = .agg #[.int .i64 k, .int .i64 n, .int .i64 d, .string s, .slice o len cap])
  (H : ∀ w', Below w.heap.size w w' → Calls Tryz.prog 55 #[v, .int .i64 (deep + 1 : Nat), .pointer (some ⟨c, 0, none⟩)] w' fun e w'' => e = .returned (.bool r) ∧ Below w'.heap.size w' w'') :
  Calls Tryz.prog 57 #[v, .pointer (some ⟨c, 0, none⟩), .pointer (some ⟨pb, 0, none⟩)] w fun e w' => e = .returned (.bool !r) ∧ Below w.heap.size w w' := by
 obtain ⟨k, n, d, s, o, len, cap, rfl⟩ := hv
 have HW : ∀ X, Below w.heap.size w (w.alloc X) := fun X => (Below.refl _ _).alloc (Nat.le_refl _) _
 have HWH := Lib.hid HW
 have HH := Lib.hid H
 have hcn : ¬ c = w.heap.size := by omega
 have hpn : ¬ pb = w.heap.size := by omega
 clear HW H
 go_enter Tryz.func57, Tryz.ntmps57
 go_wp2_with (first | (go_at_call 55; refine (HH.out _ (HWH.out _)).mono ?_; rintro e' w1 ⟨rfl, hb⟩))
 go_ret
 exact ⟨rfl, (HWH.out _).trans (hb.mono (by simp))⟩
end
section
open Go.RowKit
theorem right_parts (l : List Dat) (deep c pb B : Nat) (sl : Value) (W : World) (r : Bool) (hr : Dat.rightL l (deep + 1) = r) (hv : RepS W B l sl) (hB : B ≤ W.heap.size) (hc : c < W.heap.size) (hp : pb < W.heap.size) (hfn : W.cell? ⟨c, 0, none⟩ = some (.func (.func 55) #[] #[.pointer (some ⟨c, 0, none⟩)])) (hpb : W.cell? ⟨pb, 0, none⟩ = some (.int .i64 deep)) (hdeep : deep ≤ 200)
  (IH : ∀ x ∈ l, ∀ (v : Value) (deep c : Nat) (di : Int) (B : Nat) (w : World), di = deep → RepD w B x v → B ≤ w.heap.size → c < w.heap.size → w.cell? ⟨c, 0, none⟩ = some (.func (.func 55) #[] #[.pointer (some ⟨c, 0, none⟩)]) → deep ≤ 201 →
   Calls Tryz.prog 55 #[v, .int .i64 di, .pointer (some ⟨c, 0, none⟩)] w fun e w' => e = .returned (.bool (Dat.right x deep)) ∧ Below w.heap.size w w') :
  Calls Tryz.prog 29 #[sl, .func (.func 57) #[] #[.pointer (some ⟨c, 0, none⟩), .pointer (some ⟨pb, 0, none⟩)]] W fun e w' => e = .returned (.bool !r) ∧ Below W.heap.size W w' := by
 refine containsFunc_S 57 #[.pointer (some ⟨c, 0, none⟩), .pointer (some ⟨pb, 0, none⟩)] (fun x => !Dat.right x (deep + 1)) (!r) l sl B W hv hB (fun _ _ => by kernel_rfl) ?_ (by rw [← hr, rightL_any, Bool.not_not])
 intro x hx v w' hxv hb
 have hs := hb.size
 refine right11_any x v deep c pb w' (Dat.right x (deep + 1)) ((hb.cell (p := ⟨c, 0, none⟩) hc).trans hfn) ((hb.cell (p := ⟨pb, 0, none⟩) hp).trans hpb) hdeep (by omega) (by omega) (agg_of hxv) ?_
 intro w'' hb2
 have hs2 := hb2.size
 exact IH x hx v (deep + 1) c _ B w'' rfl (hxv.kept (hb2.mono (by omega))) (by omega) (by omega) ((hb2.cell (p := ⟨c, 0, none⟩) (by show c < _; omega)).trans ((hb.cell (p := ⟨c, 0, none⟩) hc).trans hfn)) (by omega)
theorem right_no {deep : Nat} {n n' d d' : Int} {s s' : ByteArray} {len len' : Nat} {b q r : Bool} (h : (decide (deep ≤ 200) && ((b && (decide (n' = n) && (decide (d' = d) && (decide (s' = s) && decide (len' = len))))) && q)) = r)
  (hno : ¬ b = true ∨ 200 < (deep : Int) ∨ ¬ n' = n ∨ ¬ d' = d ∨ ¬ s'.toList = s.toList ∨ ((len' : Int) != (len : Int)) = true) : false = r := by
 rw [← h]
 by_cases h1 : deep ≤ 200 ∧ b = true ∧ n' = n ∧ d' = d ∧ s' = s ∧ len' = len
 ·obtain ⟨a, rfl, rfl, rfl, rfl, rfl⟩ := h1
  rcases hno with h | h | h | h | h | h
  ·exact absurd rfl h
  ·omega
  ·exact absurd rfl h
  ·exact absurd rfl h
  ·exact absurd rfl h
  ·simp at h
 ·symm
  rw [Bool.and_eq_false_iff]
  apply Decidable.byContradiction
  intro h2
  apply h1
  simp only [not_or, Bool.not_eq_false, Bool.and_eq_true, decide_eq_true_eq] at h2
  obtain ⟨a, ⟨b, c, d, e, f⟩, _⟩ := h2
  exact ⟨a, b, c, d, e, f⟩
theorem right_yes {deep : Nat} {n n' d d' : Int} {s s' : ByteArray} {len len' : Nat} {b q r : Bool} (h : (decide (deep ≤ 200) && ((b && (decide (n' = n) && (decide (d' = d) && (decide (s' = s) && decide (len' = len))))) && q)) = r)
  (h0 : b = true) (h1 : (deep : Int) ≤ 200) (h2 : n' = n) (h3 : d' = d) (h4 : s'.toList = s.toList) (h5 : ((len' : Int) != (len : Int)) = false) : q = r := by
 have e : s' = s := by
  apply ByteArray.ext; apply Array.ext'
  rw [← ByteArray.toList_eq, ← ByteArray.toList_eq]; exact h4
 have e2 : len' = len := by have := h5; simp at this; omega
 rw [← h, decide_eq_true (by omega : deep ≤ 200), h0, decide_eq_true h2, decide_eq_true h3, decide_eq_true e, decide_eq_true e2]; rfl
theorem right1_any : ∀ (x : Dat) (v : Value) (deep c : Nat) (di : Int) (B : Nat) (w : World), di = deep → RepD w B x v → B ≤ w.heap.size → c < w.heap.size → w.cell? ⟨c, 0, none⟩ = some (.func (.func 55) #[] #[.pointer (some ⟨c, 0, none⟩)]) → deep ≤ 201 →
    Calls Tryz.prog 55 #[v, .int .i64 di, .pointer (some ⟨c, 0, none⟩)] w fun e w' => e = .returned (.bool (Dat.right x deep)) ∧ Below w.heap.size w w' := by
  intro x
  induction x using Dat.ind with
  | h k n d s l ih =>
    intro v deep c di B w hdi hv hB hc hfn hdeep
    subst hdi
    obtain ⟨sl, rfl, bk, bn, bd, bs, o, len, cap, rfl, hlen, hcap, hmax, hc0⟩ := hv.open
    obtain ⟨k', n', d', s', o', len', cap', b, hbare, hhead⟩ := bare_any k n d s o len cap bn bd bs
    obtain ⟨r, hr⟩ : ∃ r, Dat.right (.mk k n d s l) deep = r := ⟨_, rfl⟩
    rw [hr]
    rw [Dat.right, ← hlen, hhead] at hr
    have IH := Lib.hid ih
    have HV := Lib.hid hc0
    have HL := Lib.hid hlen
    have HB := Lib.hid hbare
    have HR := Lib.hid hr
    clear ih hv hc0 hlen hbare hhead hr
    have hcn : ¬ c = w.heap.size := by omega
    go_enter Tryz.func55, Tryz.ntmps55
    go_wp2_with (first | (go_at_call 56; refine (HB.out _).mono ?_; rintro e' w1 ⟨rfl, hb⟩; have hz := two_size hb; have z0 : w.heap.size < w1.heap.size := (by omega); have z1 : w.heap.size + 1 < w1.heap.size := (by omega); have z2 : c < w1.heap.size := (by omega); obtain ⟨q0, q1, q2, q3, q4⟩ := two_five hb; have q5 := two_one2 hb; have q6 := ((two_below hb).cell (p := ⟨c, 0, none⟩) hc).trans hfn; have HB1 := Lib.hid hb; clear hb))
    all_goals try
      (go_ret
       refine ⟨ret_bool (right_no HR.out ?_), (two_below HB1.out).alloc (by omega) _⟩
       first
       | exact .inl ‹_›
       | exact .inr (.inr (.inr (.inr (.inl ‹_›))))
       | exact .inr (.inr (.inr (.inl ‹_›)))
       | exact .inr (.inr (.inl ‹_›))
       | exact .inr (.inl ‹_›)
       | (rcases ‹200 < (deep : Int) ∨ _› with h | h
          · exact .inr (.inl h)
          · exact .inr (.inr (.inr (.inr (.inr h))))))
    have HQ := Lib.hid (right_yes HR.out (by assumption) (by assumption) (by assumption) (by assumption) (by assumption) (‹_ ∧ ((len' : Int) != (len : Int)) = false›).2)
    have hd0 : deep ≤ 200 := by have := ‹(deep : Int) ≤ 200›; omega
    have HS : RepS w B l (.slice o len cap) := ⟨o, len, cap, rfl, HL.out, hcap, hmax, HV.out⟩
    have HS1 := Lib.hid HS
    clear HS
    have HK := Lib.hid (two_below HB1.out)
    refine (right_parts l deep c (w.heap.size + 1) B _ _ r HQ.out (HS1.out.kept ((HK.out.alloc (by omega) _).mono hB)) ?_ ?_ ?_ ?_ ?_ hd0 IH.out).mono ?_
    · simp; omega
    · simp; omega
    · simp; omega
    · rw [World.cell?_alloc_past _ _ _ z2]; exact q6
    · rw [World.cell?_alloc_past _ _ _ z1]; exact q5
    rintro e2 w2 ⟨rfl, hb2⟩
    go_wp2
    go_ret
    exact ⟨by simp, (HK.out.alloc (by omega) _).trans (hb2.mono (by simp; omega))⟩
theorem dright_any (x : Dat) (v : Value) (B : Nat) (w : World) (hv : RepD w B x v) (hB : B ≤ w.heap.size) :
  Calls Tryz.prog 31 #[v] w fun e w' => e = .returned (.bool (Dat.right x 0)) ∧ Below w.heap.size w w' := by
 obtain ⟨k, n, d, s, l⟩ := x
 obtain ⟨sl, rfl, _, _, _, _, o, len, cap, rfl, hx⟩ := hv.open
 clear hx
 have HV := Lib.hid hv
 clear hv
 have HW := Lib.hid (fun X Y => ((Below.refl w.heap.size w).alloc (Nat.le_refl _) X).alloc (by simp) Y)
 obtain ⟨y, hy⟩ : ∃ y, Dat.right (.mk k n d s l) 0 = y := ⟨_, rfl⟩
 rw [hy]
 have HY := Lib.hid hy
 clear hy
 go_enter Tryz.func31, Tryz.ntmps31
 go_wp2_with fail
 refine (right1_any (.mk k n d s l) _ 0 (w.heap.size + 1) 0 B _ rfl (HV.out.kept ((HW.out _ _).mono hB)) ?_ ?_ (box_cell2 _ _ _ _ 0 rfl) (by omega)).mono ?_
 ·simp; omega
 ·simp
 rw [HY.out]
 rintro e' w1 ⟨rfl, hb1⟩
 go_wp2
 go_ret
 exact ⟨rfl, (HW.out _ _).trans (hb1.mono (by simp; omega))⟩
end
section
open Go.RowKit Go.Shelf
attribute [local go_sem] Oper.semAt_some
end
section
open Go.RowKit
theorem info_datum : (Tryz.prog.info? 60).map (fun i => (i.zero, i.size, i.bytes)) = some (some (.agg #[.int .i64 0, .int .i64 0, .int .i64 0, .string ⟨#[]⟩, .slice none 0 0]), 5, 64) := by kernel_rfl
def CellsD (w : World) (B : Nat) : List Dat → List Value → Prop
 | [], xs => xs = []
 | x :: l, xs => ∃ c0 c1 c2 c3 c4 r, xs = c0 :: c1 :: c2 :: c3 :: c4 :: r ∧ RepD w B x (.agg #[c0, c1, c2, c3, c4]) ∧ CellsD w B l r
theorem CellsD.length {w : World} {B : Nat} : ∀ {l : List Dat} {xs : List Value}, CellsD w B l xs → xs.length = l.length * 5
 | [], _, h => by rw [CellsD] at h; rw [h]; rfl
 | _ :: l, _, ⟨_, _, _, _, _, r, he, _, hr⟩ => by rw [he]; simp only [List.length_cons, hr.length]; omega
theorem CellsD.mono {w w' : World} {B B' : Nat} (hk : ∀ x v, RepD w B x v → RepD w' B' x v) : ∀ {l : List Dat} {xs : List Value}, CellsD w B l xs → CellsD w' B' l xs
 | [], _, h => h
 | _ :: _, _, ⟨c0, c1, c2, c3, c4, r, he, hx, hr⟩ => ⟨c0, c1, c2, c3, c4, r, he, hk _ _ hx, hr.mono hk⟩
theorem CellsD.repC {w : World} {B b : Nat} : ∀ {l : List Dat} {xs : List Value} {off : Nat}, CellsD w B l xs → (∀ j u, xs[j]? = some u → w.cell? ⟨b, off + j, none⟩ = some u) → RepC w B l b off
 | [], _, _, _, _ => by rw [RepC]; trivial
 | x :: l, _, off, ⟨c0, c1, c2, c3, c4, r, he, hx, hr⟩, hc => by
  subst he
  rw [RepC]
  refine ⟨⟨c0, c1, c2, c3, c4, hc 0 _ rfl, hc 1 _ rfl, hc 2 _ rfl, hc 3 _ rfl, hc 4 _ rfl, hx⟩, hr.repC fun j u hj => ?_⟩
  have := hc (j + 5) u (by simpa using hj)
  rw [show off + 5 + j = off + (j + 5) by omega]; exact this
theorem repS_of_row {w : World} {base B : Nat} {v : Value} {l : List Dat} {xs : List Value} (hown : w.ownsRow base 60 5 v l.length xs) (hc : CellsD w B l xs) (hB : B ≤ w.heap.size) : RepS w w.heap.size l v := by
 rcases hown.2 with ⟨hv, h0⟩ | ⟨g, cap, cur, hv, hb, hg, hle, hm, hsz, htk⟩
 ·have : l = [] := List.eq_nil_of_length_eq_zero h0
  subst this
  exact ⟨none, 0, 0, hv, rfl, by omega, by omega, rfl, rfl⟩
 ·have hlt := (Array.getElem?_eq_some_iff.1 hg).1
  refine ⟨some ⟨g, 0, none⟩, l.length, cap, hv, rfl, hle, by unfold maxLen at hm; omega, fun _ => ⟨rfl, hlt⟩, ?_⟩
  refine (hc.mono (fun x v h => h.wider hB)).repC fun j u hj => ?_
  rw [← htk] at hj
  rw [List.getElem?_take] at hj
  split at hj
  ·unfold World.cell?
   rw [hg, Nat.zero_add]
   simpa using hj
  ·cases hj
end
section
open Go.RowKit
theorem extract_table : ∀ i : Nat, i < 31 → Value.agg (tableA.extract (i * 5) (i * 5 + 5)) = factV (Prims.facts i)
 | 0, _ => by kernel_rfl
 | 1, _ => by kernel_rfl
 | 2, _ => by kernel_rfl
 | 3, _ => by kernel_rfl
 | 4, _ => by kernel_rfl
 | 5, _ => by kernel_rfl
 | 6, _ => by kernel_rfl
 | 7, _ => by kernel_rfl
 | 8, _ => by kernel_rfl
 | 9, _ => by kernel_rfl
 | 10, _ => by kernel_rfl
 | 11, _ => by kernel_rfl
 | 12, _ => by kernel_rfl
 | 13, _ => by kernel_rfl
 | 14, _ => by kernel_rfl
 | 15, _ => by kernel_rfl
 | 16, _ => by kernel_rfl
 | 17, _ => by kernel_rfl
 | 18, _ => by kernel_rfl
 | 19, _ => by kernel_rfl
 | 20, _ => by kernel_rfl
 | 21, _ => by kernel_rfl
 | 22, _ => by kernel_rfl
 | 23, _ => by kernel_rfl
 | 24, _ => by kernel_rfl
 | 25, _ => by kernel_rfl
 | 26, _ => by kernel_rfl
 | 27, _ => by kernel_rfl
 | 28, _ => by kernel_rfl
 | 29, _ => by kernel_rfl
 | 30, _ => by kernel_rfl
 | i + 31, h => absurd h (by omega)
theorem index_table (i : Nat) (hi : i < 31) (w : World) : (Instr.index 141 (.agg tableA) (.int .i64 i)).run Tryz.prog w = .ok (factV (Prims.facts i)) w := by
 rw [← extract_table i hi]
 have hn : (0 : Int) ≤ i ∧ (i : Int) < (31 : Nat) := by omega
 simp [Instr.index, run_underlying Tryz.underlying141, asIntOf, hn, part, go_sem]
 intro h; omega
theorem facts_any (n : Int) (h0 : -9223372036854775808 ≤ n) (h1 : n ≤ 9223372036854775807) (w : World) :
  Calls Tryz.prog 64 #[.int .i64 n] w fun e w' => e = .returned (.tuple #[factV (Prims.facts n), .bool (Prims.has n)]) ∧ Below w.heap.size w w' := by
 by_cases hn : 0 ≤ n ∧ n ≤ 30
 ·obtain ⟨i, rfl⟩ : ∃ i : Nat, n = i := ⟨n.toNat, by omega⟩
  have hi : i < 31 := by omega
  have hh : Prims.has (i : Int) = true := by simp [Prims.has]; omega
  rw [hh]
  obtain ⟨F, hF⟩ : ∃ F, Prims.facts (i : Int) = F := ⟨_, rfl⟩
  rw [hF]
  have HF := Lib.hid hF
  clear hF
  have hix := fun W => index_table i hi W
  rw [HF.out] at hix
  unfold factV factC at *
  obtain ⟨f0, f1, f2, f3, f4⟩ := F
  dsimp only at *
  go_enter Tryz.func64, Tryz.ntmps64
  go_wp2_with fail
  refine (table_any _).mono ?_
  rintro e' w1 ⟨rfl, hb1⟩
  have hbox : Box5 w1 w.heap.size 97 (.string ⟨#[]⟩) (.int .i64 0) (.int .i64 0) (.bool false) (.bool false) := (hb1.block _ (by simp)).trans (Box5.new w _ _ _ _ _ _)
  obtain ⟨q0, q1, q2, q3, q4⟩ := hbox.cells
  obtain ⟨z0, z1, z2, z3, z4⟩ := hbox.free
  have hlt := hbox.lt
  have bN := hbox.set (.string f0) (.int .i64 f1) (.int .i64 f2) (.bool f3) (.bool f4)
  obtain ⟨r0, r1, r2, r3, r4⟩ := bN.cells
  have HB := Lib.hid ((one_below hb1).trans (set5_below w1 w.heap.size w.heap.size (.string f0) (.int .i64 f1) (.int .i64 f2) (.bool f3) (.bool f4) (Nat.le_refl _)))
  clear hb1 hbox bN
  go_wp2_with fail
  exact bodyPost_ret (v := .tuple #[.agg #[.string f0, .int .i64 f1, .int .i64 f2, .bool f3, .bool f4], .bool true]) (by simp [results, Tryz.results64, go_sem, r0, r1, r2, r3, r4]) rfl ⟨rfl, HB.out⟩
 ·have hh : Prims.has n = false := by simp [Prims.has]; omega
  have hf : Prims.facts n = Prims.noFact := by rw [Prims.facts, if_neg hn]
  rw [hh, hf]
  rcases (by omega : n < 0 ∨ 0 ≤ n) with hlt | hge
  ·go_enter Tryz.func64, Tryz.ntmps64
   go_wp2_with fail
   exact bodyPost_ret (v := .tuple #[.agg #[.string ⟨#[]⟩, .int .i64 0, .int .i64 0, .bool false, .bool false], .bool false]) (by simp [results, Tryz.results64, go_sem]) rfl ⟨rfl, (Below.refl _ _).alloc (Nat.le_refl _) _⟩
  ·have hge2 : 31 ≤ n := by omega
   go_enter Tryz.func64, Tryz.ntmps64
   go_wp2_with fail
   exact bodyPost_ret (v := .tuple #[.agg #[.string ⟨#[]⟩, .int .i64 0, .int .i64 0, .bool false, .bool false], .bool false]) (by simp [results, Tryz.results64, go_sem]) rfl ⟨rfl, (Below.refl _ _).alloc (Nat.le_refl _) _⟩
theorem facts_to (n : Int) (f0 : ByteArray) (f1 f2 : Int) (f3 f4 b : Bool) (hf : Prims.facts n = ⟨f0, f1, f2, f3, f4⟩) (hb : Prims.has n = b) (h0 : -9223372036854775808 ≤ n) (h1 : n ≤ 9223372036854775807) (w : World) :
  Calls Tryz.prog 64 #[.int .i64 n] w fun e w' => e = .returned (.tuple #[.agg #[.string f0, .int .i64 f1, .int .i64 f2, .bool f3, .bool f4], .bool b]) ∧ Below w.heap.size w w' := by
 have := facts_any n h0 h1 w
 rw [hf, hb] at this
 exact this
end
section
open Go.RowKit
theorem nameByte_str (b : UInt8) (h : Dat.nameByte b = true) : Dat.strByte b = true := by
 have h0 : ∀ n, n < 256 → Dat.nameByte (UInt8.ofNat n) = true → Dat.strByte (UInt8.ofNat n) = true := by decide +kernel
 have := h0 b.toNat (UInt8.toNat_lt b)
 rw [UInt8.ofNat_toNat] at this
 exact this h
theorem name_str {s : List UInt8} (h : Dat.name s = true) : s.all Dat.strByte = true := by
 unfold Dat.name at h
 simp only [Bool.and_eq_true] at h
 exact List.all_eq_true.2 fun b hb => nameByte_str b (List.all_eq_true.1 h.2.2.1 b hb)
theorem head_iff (k n d : Int) (s : List UInt8) (len : Nat) : Dat.head k n d s len = true ↔
  (0 ≤ k ∧ k ≤ 7) ∧ (k = 0 → Num.right n d = true) ∧ (k ≠ 0 → d = 0) ∧ (k = 1 → n = 0 ∨ n = 1) ∧ (k ≠ 0 → k ≠ 1 → n = 0) ∧ (k = 2 → Dat.name s = true) ∧ (k ≠ 2 → k ≠ 3 → s = []) ∧ s.all Dat.strByte = true ∧ (k = 6 → len = 2) ∧ (k ≠ 6 → k ≠ 7 → len = 0) := by
 unfold Dat.head
 by_cases k0 : k = 0
 ·subst k0
  simp only [if_true, Bool.and_eq_true, List.isEmpty_iff, decide_eq_true_eq]
  constructor
  ·rintro ⟨h1, h2, h3⟩
   subst h2
   exact ⟨by omega, fun _ => h1, fun h => absurd rfl h, fun h => by omega, fun h => absurd rfl h, fun h => by omega, fun _ _ => rfl, rfl, fun h => by omega, fun _ _ => h3⟩
  ·rintro ⟨_, h1, _, _, _, _, h2, _, _, h3⟩
   exact ⟨h1 trivial, h2 (by omega) (by omega), h3 (by omega) (by omega)⟩
 rw [if_neg k0]
 by_cases k1 : k = 1
 ·subst k1
  simp only [if_true, Bool.and_eq_true, List.isEmpty_iff, decide_eq_true_eq]
  constructor
  ·rintro ⟨h1, h2, h3, h4⟩
   subst h3
   exact ⟨by omega, fun h => by omega, fun _ => h1, fun _ => h2, fun _ h => absurd rfl h, fun h => by omega, fun _ _ => rfl, rfl, fun h => by omega, fun _ _ => h4⟩
  ·rintro ⟨_, _, h1, h2, _, _, h3, _, _, h4⟩
   exact ⟨h1 k0, h2 trivial, h3 (by omega) (by omega), h4 (by omega) (by omega)⟩
 rw [if_neg k1]
 by_cases k2 : k = 2
 ·subst k2
  simp only [if_true, Bool.and_eq_true, decide_eq_true_eq]
  constructor
  ·rintro ⟨h1, h2, h3, h4⟩
   exact ⟨by omega, fun h => by omega, fun _ => h1, fun h => by omega, fun _ _ => h2, fun _ => h3, fun h => absurd rfl h, name_str h3, fun h => by omega, fun _ _ => h4⟩
  ·rintro ⟨_, _, h1, _, h2, h3, _, _, _, h4⟩
   exact ⟨h1 k0, h2 k0 k1, h3 trivial, h4 (by omega) (by omega)⟩
 rw [if_neg k2]
 by_cases k3 : k = 3
 ·subst k3
  simp only [if_true, Bool.and_eq_true, decide_eq_true_eq]
  constructor
  ·rintro ⟨h1, h2, h3, h4⟩
   exact ⟨by omega, fun h => by omega, fun _ => h1, fun h => by omega, fun _ _ => h2, fun h => by omega, fun _ h => absurd rfl h, h3, fun h => by omega, fun _ _ => h4⟩
  ·rintro ⟨_, _, h1, _, h2, _, _, h3, _, h4⟩
   exact ⟨h1 k0, h2 k0 k1, h3, h4 (by omega) (by omega)⟩
 rw [if_neg k3]
 by_cases k45 : k = 4 ∨ k = 5
 ·rw [if_pos k45]
  simp only [Bool.and_eq_true, List.isEmpty_iff, decide_eq_true_eq]
  constructor
  ·rintro ⟨h1, h2, h3, h4⟩
   subst h3
   exact ⟨by omega, fun h => absurd h k0, fun _ => h1, fun h => absurd h k1, fun _ _ => h2, fun h => absurd h k2, fun _ _ => rfl, rfl, fun h => by omega, fun _ _ => h4⟩
  ·rintro ⟨_, _, h1, _, h2, _, h3, _, _, h4⟩
   exact ⟨h1 k0, h2 k0 k1, h3 k2 k3, h4 (by omega) (by omega)⟩
 rw [if_neg k45]
 by_cases k6 : k = 6
 ·subst k6
  simp only [if_true, Bool.and_eq_true, List.isEmpty_iff, decide_eq_true_eq]
  constructor
  ·rintro ⟨h1, h2, h3, h4⟩
   subst h3
   exact ⟨by omega, fun h => absurd h k0, fun _ => h1, fun h => absurd h k1, fun _ _ => h2, fun h => absurd h k2, fun _ _ => rfl, rfl, fun _ => h4, fun h => absurd rfl h⟩
  ·rintro ⟨_, _, h1, _, h2, _, h3, _, h4, _⟩
   exact ⟨h1 k0, h2 k0 k1, h3 k2 k3, h4 trivial⟩
 rw [if_neg k6]
 by_cases k7 : k = 7
 ·subst k7
  simp only [if_true, Bool.and_eq_true, List.isEmpty_iff, decide_eq_true_eq]
  constructor
  ·rintro ⟨h1, h2, h3⟩
   subst h3
   exact ⟨by omega, fun h => absurd h k0, fun _ => h1, fun h => absurd h k1, fun _ _ => h2, fun h => absurd h k2, fun _ _ => rfl, rfl, fun h => by omega, fun _ h => absurd rfl h⟩
  ·rintro ⟨_, _, h1, _, h2, _, h3, _, _, _⟩
   exact ⟨h1 k0, h2 k0 k1, h3 k2 k3⟩
 rw [if_neg k7]
 constructor
 ·intro h; cases h
 ·rintro ⟨h, _⟩; omega
end
end Go.Proofs.YtigkhmppnnljiaaGreatDoor

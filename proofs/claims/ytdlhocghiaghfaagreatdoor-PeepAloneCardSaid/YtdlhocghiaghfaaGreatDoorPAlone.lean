/-
  The walk of PeepAlone.
-/
import Derived.Test.YtdlhocghiaghfaaGreatDoorPComeW
import Derived.Test.YtdlhocghiaghfaaGreatDoorLawsL
namespace Go.Proofs.YtdlhocghiaghfaaGreatDoor
open Go Go.RowKit

namespace Peep
open Unt
/-- A procedure that does nothing. -/
def idleP : Proc := ⟨0, false, 1, [⟨4, 0, 0, 0, []⟩, ⟨22, 0, 0, 0, []⟩], []⟩
/-- The procedure that stands at a place, all but one being idle. -/
def aloneP (u : Unt) (n j : Nat) : Proc := if j = n then (u.procs[j]?).getD idleP else idleP
def aloneU (u : Unt) (n : Nat) : Unt := ⟨u.consts, (List.range u.procs.length).map (aloneP u n)⟩
theorem alone_snoc (u : Unt) (n j : Nat) : (List.range (j + 1)).map (aloneP u n) = (List.range j).map (aloneP u n) ++ [aloneP u n j] := by rw [List.range_succ, List.map_append]; rfl
theorem alone_at {u : Unt} {n : Nat} {p : Proc} (h : u.procs[n]? = some p) : aloneP u n n = p := by rw [aloneP, if_pos rfl, h]; rfl
theorem alone_get {u : Unt} {n : Nat} {p : Proc} (h : u.procs[n]? = some p) : (aloneU u n).procs[n]? = some p := by
  have hlt := (List.getElem?_eq_some_iff.1 h).1
  show ((List.range u.procs.length).map (aloneP u n))[n]? = some p
  simp [hlt, alone_at h]
theorem alone_mem {u : Unt} {n : Nat} {q : Proc} (h : q ∈ (aloneU u n).procs) : q = idleP ∨ q ∈ u.procs := by
  obtain ⟨j, hj, rfl⟩ := List.mem_map.1 h
  rw [aloneP]
  split
  · have hlt : j < u.procs.length := List.mem_range.1 hj
    right
    rw [List.getElem?_eq_getElem hlt]
    exact List.getElem_mem hlt
  · exact .inl rfl
theorem procsB_of {nk np : Int} : ∀ {l : List Proc} {all : Int}, (∀ p ∈ l, headB p = true ∧ lastB (lastOp p.code) = true ∧ (∀ x ∈ p.code, fits x p.regs p.code.length np nk = true) ∧ p.code.length ≤ 200) → all + 200 * l.length ≤ 50000 → procsB nk np l all = true
  | [], _, _, _ => rfl
  | p :: l, all, h, ha => by
    obtain ⟨h1, h2, h3, h4⟩ := h p (by simp)
    rw [List.length_cons] at ha
    have ih := procsB_of (nk := nk) (np := np) (l := l) (all := all + p.code.length) (fun q hq => h q (by simp [hq])) (by omega)
    have hd : decide (all + (p.code.length : Int) ≤ 50000) = true := decide_eq_true (by omega)
    have ha2 : p.code.all (fun x => fits x p.regs p.code.length np nk) = true := List.all_eq_true.2 h3
    simp only [procsB, h1, h2, ih, hd, ha2, Bool.and_self]
theorem idle_fits (np nk : Int) : ∀ x ∈ idleP.code, fits x idleP.regs idleP.code.length np nk = true := by
  intro x hx
  simp only [idleP, List.mem_cons, List.not_mem_nil, or_false] at hx
  rcases hx with rfl | rfl <;> rfl
theorem alone_ok {u : Unt} {n : Nat} (h : clOk u = true) (hf : Unt.fewB u 200 2000 = true) : clOk (aloneU u n) = true := by
  simp only [clOk, Bool.and_eq_true, Bool.not_eq_true'] at h ⊢
  obtain ⟨hok, hal⟩ := h
  simp only [Unt.okB, Bool.and_eq_true, decide_eq_true_eq] at hok
  have hfew := hf
  simp only [Unt.fewB, Bool.and_eq_true, Bool.not_eq_true', decide_eq_false_iff_not] at hfew
  have hlen : (aloneU u n).procs.length = u.procs.length := by simp [aloneU]
  constructor
  · simp only [Unt.okB, Bool.and_eq_true, decide_eq_true_eq, hlen]
    refine ⟨hok.1, hok.2.1, hok.2.2.1, procsB_of (fun p hp => ?_) (by rw [hlen]; omega)⟩
    rcases alone_mem hp with rfl | hp
    · exact ⟨by decide +kernel, by decide +kernel, idle_fits _ _, by decide⟩
    · obtain ⟨g1, g2, g3⟩ := Live.procsB_at hok.2.2.2 hp
      exact ⟨g1, g2, g3, by have := (Live.fewP_at hfew.2.2 hp).1; omega⟩
  · rw [List.any_eq_false]
    intro p hp
    rcases alone_mem hp with rfl | hp
    · decide
    · rw [List.any_eq_false] at hal
      exact hal p hp
theorem alone_short {u : Unt} {n : Nat} (h : Live.Short u) : Live.Short (aloneU u n) := by
  intro p hp
  rcases alone_mem hp with rfl | hp
  · refine ⟨by decide, fun x hx => ?_⟩
    simp only [idleP, List.mem_cons, List.not_mem_nil, or_false] at hx
    rcases hx with rfl | rfl <;> decide
  · exact h p hp
end Peep
theorem ProcR.cells {U W : World} {B : Nat} {p : Proc} {cs : List Value} (h : ProcR U B p cs) (hk : ∀ b o u, U.cell? ⟨b, o, none⟩ = some u → W.cell? ⟨b, o, none⟩ = some u) : ProcR W B p cs := by
  obtain ⟨sl, al, h0, h1, h2, h3, h4⟩ := h
  exact ⟨sl, al, h0, h1, h2, codeR_cells h3 hk, h4.cells hk fun l _ cs ⟨sl, h5, h6⟩ => ⟨sl, h5, h6.cells hk fun _ _ _ h => h⟩⟩
/-- A procedure that reads out of blocks beside some. -/
def ProcM (W : World) (S : Nat → Prop) (p : Proc) (cs : List Value) : Prop := ∃ U B, Sub S U W ∧ B ≤ W.heap.size ∧ ProcR U B p cs
theorem ProcM.to {W W' : World} {S S' : Nat → Prop} {p : Proc} {cs : List Value} (h : ProcM W S p cs) (hs : ∀ U, Sub S U W → Sub S' U W') (hz : W.heap.size ≤ W'.heap.size) : ProcM W' S' p cs := by
  obtain ⟨U, B, h1, h2, h3⟩ := h
  exact ⟨U, B, hs U h1, Nat.le_trans h2 hz, h3⟩
theorem ProcM.read {W : World} {S : Nat → Prop} {p : Proc} {cs : List Value} (h : ProcM W S p cs) : ProcR W W.heap.size p cs := by
  obtain ⟨U, B, h1, h2, h3⟩ := h
  exact (h3.cells h1.cells).wider h2
/-- What the loop of PeepAlone keeps. -/
def AlI (u : Unt) (n H b8 : Nat) (cs : Value) (Wo : World) (j : Nat) (wr : World) : Prop :=
  ∃ v xs, Below H Wo wr ∧ BoxL wr b8 25 [cs, v] ∧ (∃ o l c, v = .slice o l c) ∧ wr.ownsRow H 31 5 v j xs ∧ H ≤ b8 ∧ CellsG 5 (ProcM wr (fun b => b = b8 ∨ v.ownBlock = some b)) ((List.range j).map (Peep.aloneP u n)) xs
theorem alI_step {u : Unt} {n H b8 j g c : Nat} {cs v c0 c1 c2 c3 c4 : Value} {Wo wr W1 w7 : World} {xs : List Value} (hb : Below H Wo wr) (hbx : BoxL wr b8 25 [cs, v]) (hown : wr.ownsRow H 31 5 v j xs) (hH : H ≤ b8) (hcs : CellsG 5 (ProcM wr (fun b => b = b8 ∨ v.ownBlock = some b)) ((List.range j).map (Peep.aloneP u n)) xs)
    (h1 : Below wr.heap.size wr W1) (hnew : ProcM W1 (fun b => b = b8 ∨ v.ownBlock = some b) (Peep.aloneP u n j) [c0, c1, c2, c3, c4]) (hgrow : (W1.alloc (.cells #[c0, c1, c2, c3, c4] 31)).grownBy w7 v.ownBlock)
    (hown7 : w7.ownsRow H 31 5 (.slice (some ⟨g, 0, none⟩) (j + 1) c) (j + 1) (xs ++ [c0, c1, c2, c3, c4])) (hgo : v.ownBlock = some g ∨ g = W1.heap.size + 1) :
    BoxL w7 b8 25 [cs, v] ∧ AlI u n H b8 cs Wo (j + 1) (w7.setCell ⟨b8, 1, none⟩ (.slice (some ⟨g, 0, none⟩) (j + 1) c)) := by
  have hz1 := h1.size
  have hzr := hb.size
  have hz7 := hgrow.size
  rw [World.size_alloc] at hz7
  have hlt8 := hbx.lt
  have box7 : BoxL w7 b8 25 [cs, v] := by
    refine (hgrow.block b8 (by rw [World.size_alloc]; omega) (fun e => ?_)).trans ((hbx.keep h1).alloc _)
    obtain ⟨cs', f, hc⟩ := own_row hown b8 e.symm
    rw [show wr.heap[b8]? = _ from hbx] at hc
    simp at hc
  have hsub1 : ∀ U, Sub (fun b => b = b8 ∨ v.ownBlock = some b) U W1 → Sub (fun b => b = b8 ∨ (Value.slice (some ⟨g, 0, none⟩) (j + 1) c).ownBlock = some b) U (w7.setCell ⟨b8, 1, none⟩ (.slice (some ⟨g, 0, none⟩) (j + 1) c)) := fun U hU => by
    refine ((hU.below (Below.one W1 _)).step hgrow.size (fun b hl hn => hgrow.block b hl (fun e => hn (.inr e.symm))) (fun b hl hS => ?_)).set ⟨b8, 1, none⟩ _ (.inl rfl)
    rcases hS with h | h
    · exact .inl h
    · simp only [Value.ownBlock, Option.some.injEq] at h
      subst h
      rcases hgo with h | h
      · exact .inr h
      · rw [World.size_alloc] at hl
        omega
  refine ⟨box7, .slice (some ⟨g, 0, none⟩) (j + 1) c, xs ++ [c0, c1, c2, c3, c4], ?_, box7.set 1 _, ⟨_, _, _, rfl⟩, ?_, hH, ?_⟩
  · refine Below.setCell (p := ⟨b8, 1, none⟩) ?_ hH _
    refine (hb.trans ((h1.trans ((Below.one W1 _).mono hz1)).mono (by have := hown.lt; omega))).grown hgrow (by rw [World.size_alloc]; omega) (fun k e => (hown.lt k e).1)
  · refine ownsRow_set hown7 _ _ (fun r hr e => ?_)
    obtain ⟨cs', f, hc⟩ := own_row hown7 r hr
    have e : r = b8 := e
    rw [e, show w7.heap[b8]? = _ from box7] at hc
    simp at hc
  · rw [Peep.alone_snoc]
    refine CellsG.snoc (size := 5) rfl (hnew.to hsub1 (by rw [World.size_setCell]; omega)) (hcs.mono fun x _ cs h => h.to (fun U hU => hsub1 U (hU.below h1)) (by rw [World.size_setCell]; omega))

set_option maxHeartbeats 4000000 in
set_option maxRecDepth 100000 in
/-- SameProc at two readings of one procedure. -/
theorem sameProc_self (p : Proc) (hal : p.alive = []) (c0 c1 c2 c3 c4 d0 d1 d2 d3 d4 : Value) (B : Nat) (w : World) (hx : ProcR w B p [c0, c1, c2, c3, c4]) (hy : ProcR w B p [d0, d1, d2, d3, d4]) (hB : B ≤ w.heap.size) (hm : p.code.length ≤ 100000) :
    Calls Tryz.prog 19 #[.agg #[c0, c1, c2, c3, c4], .agg #[d0, d1, d2, d3, d4]] w fun e w' => e = .returned (.bool true) ∧ Below w.heap.size w w' := by
  obtain ⟨args, rest, regs, code, alive⟩ := p
  dsimp only at hal hm
  subst hal
  obtain ⟨sl, al, he, _, _, hsl, hal⟩ := hx
  obtain ⟨sl', al', he', _, _, hsl', hal'⟩ := hy
  simp only [List.cons.injEq, and_true] at he he'
  obtain ⟨rfl, rfl, rfl, rfl, rfl⟩ := he
  obtain ⟨rfl, rfl, rfl, rfl, rfl⟩ := he'
  obtain ⟨o, m, c, rfl⟩ := hsl.form
  obtain ⟨o', m', c', rfl⟩ := hsl'.form
  obtain ⟨oa, la, ca, rfl⟩ := hal.form
  obtain ⟨oa', la', ca', rfl⟩ := hal'.form
  obtain rfl : la = 0 := hal.lens.1
  obtain rfl : la' = 0 := hal'.lens.1
  dsimp only at hsl hsl'
  have HM := Lib.hid hsl.lens.1
  have hmm : m' = m := by rw [hsl'.lens.1, hsl.lens.1]
  subst hmm
  have hmle : m' ≤ 100000 := by rw [hsl.lens.1]; exact hm
  have HS := Lib.hid hsl
  have HS' := Lib.hid hsl'
  obtain ⟨W, hW⟩ : ∃ W, (w.alloc (.cells #[.int .i64 args, .bool rest, .int .i64 regs, .slice o m' c, .slice oa 0 ca] 31)).alloc (.cells #[.int .i64 args, .bool rest, .int .i64 regs, .slice o' m' c', .slice oa' 0 ca'] 31) = W := ⟨_, rfl⟩
  have HX := Lib.hid (show BoxL W w.heap.size 31 [.int .i64 args, .bool rest, .int .i64 regs, .slice o m' c, .slice oa 0 ca] from by rw [← hW]; exact (BoxL.new rfl _ _).alloc _)
  have HY := Lib.hid (show BoxL W (w.heap.size + 1) 31 [.int .i64 args, .bool rest, .int .i64 regs, .slice o' m' c', .slice oa' 0 ca'] from by rw [← hW]; exact BoxL.new (by simp) _ _)
  have HWB := Lib.hid (show Below w.heap.size w W from by rw [← hW]; exact (Below.one w _).trans ((Below.one _ _).mono (by simp)))
  have HWE := Lib.hid hW
  have HR0 := Lib.hid (Below.refl W.heap.size W)
  clear hsl hsl' hal hal' hm hW
  go_enter Tryz.func19, Tryz.ntmps19
  go_upto_region 4 with fail
  rw [HWE.out]
  go_wp2_with fail
  go_loopg [5] m' (fun G i wr => ∃ j : Nat, G = m' - j ∧ j ≤ m' ∧ i = .int .i64 j ∧ Hid (Below W.heap.size W wr))
  case atStart => exact ⟨0, rfl, by omega, rfl, HR0⟩
  case round =>
    obtain ⟨j, rfl, hj, rfl, HW⟩ := hrel
    clear HR0
    have x3 := (HX.out.keep HW.out).cell 3 rfl
    have y3 := (HY.out.keep HW.out).cell 3 rfl
    have x4 := (HX.out.keep HW.out).cell 4 rfl
    have hxl := (HX.out.keep HW.out).lt
    have hyl := (HY.out.keep HW.out).lt
    have HBW := Lib.hid (show Below B w wr from (Below.next HWB.out HW.out).mono hB)
    by_cases hjm : j < m'
    · obtain ⟨x, hx⟩ : ∃ x, code[j]? = some x := ⟨_, List.getElem?_eq_getElem (by rw [← HM.out]; exact hjm)⟩
      obtain ⟨b1, f1, cs1, ho1, hb1, hcl1, hcell1, hi1⟩ := HS.out.at HBW.out hx
      obtain ⟨b2, f2, cs2, ho2, hb2, hcl2, hcell2, hi2⟩ := HS'.out.at HBW.out hx
      subst ho1 ho2
      match cs1, hcl1, cs2, hcl2 with
      | [s0, s1, s2, s3, s4], _, [t0, t1, t2, t3, t4], _ =>
        have e0 := hcell1 0 _ rfl
        have e1 := hcell1 1 _ rfl
        have e2 := hcell1 2 _ rfl
        have e3 := hcell1 3 _ rfl
        have e4 := hcell1 4 _ rfl
        have g0 := hcell2 0 _ rfl
        have g1 := hcell2 1 _ rfl
        have g2 := hcell2 2 _ rfl
        have g3 := hcell2 3 _ rfl
        have g4 := hcell2 4 _ rfl
        rw [Nat.add_zero] at e0 g0
        have hws : w.heap.size ≤ wr.heap.size := (Below.next HWB.out HW.out).size
        have HJ := Lib.hid (fun (V : World) (hV : V = wr.drew) => sameIns_self x s0 s1 s2 s3 s4 t0 t1 t2 t3 t4 B V (hi1.kept (by rw [hV]; exact HBW.out.drew)) (hi2.kept (by rw [hV]; exact HBW.out.drew)) (by rw [hV]; exact Nat.le_trans hB hws))
        obtain ⟨op, d, a, b, l⟩ := x
        obtain ⟨sl1, he1, _, _, _, _, hl1⟩ := hi1
        obtain ⟨sl2, he2, _, _, _, _, hl2⟩ := hi2
        obtain ⟨p1, n1, q1, rfl⟩ := hl1.form
        obtain ⟨p2, n2, q2, rfl⟩ := hl2.form
        simp only [List.cons.injEq, and_true] at he1 he2
        obtain ⟨rfl, rfl, rfl, rfl, rfl⟩ := he1
        obtain ⟨rfl, rfl, rfl, rfl, rfl⟩ := he2
        have hbl1 := cell_lt e0
        have hbl2 := cell_lt g0
        clear hcell1 hcell2 hcl1 hcl2 hl1 hl2 hx
        go_upto_region 6 with fail
        refine wp_region_quiet_class (fun V => V = wr.drew) 10 (by kernel_rfl) (by kernel_rfl) rfl ?_
        intro T _ Wd HWd HWd2
        have a0 := fun s => cell_qd (HWd s) e0
        have a1 := fun s => cell_qd (HWd s) e1
        have a2 := fun s => cell_qd (HWd s) e2
        have a3 := fun s => cell_qd (HWd s) e3
        have a4 := fun s => cell_qd (HWd s) e4
        have b0 := fun s => cell_qd (HWd s) g0
        have b1' := fun s => cell_qd (HWd s) g1
        have b2' := fun s => cell_qd (HWd s) g2
        have b3 := fun s => cell_qd (HWd s) g3
        have b4 := fun s => cell_qd (HWd s) g4
        have z1 := fun s => cell_qd (HWd s) x3
        have z2 := fun s => cell_qd (HWd s) y3
        have HWH := Lib.hid HWd
        clear HWd HWd2
        simp only [List.take_succ_cons, List.take_zero, List.drop_succ_cons, List.drop_zero]
        repeat (go_big_quiet_step (fail))
        refine wpQuiet_nil ?_
        intro s
        go_wp2_with fail
        refine (HJ.out _ (HWH.out s)).mono ?_
        rintro e w7 ⟨rfl, hb7⟩
        have HW7 := Lib.hid (show Below W.heap.size W w7 from Below.next (by rw [HWH.out s]; exact HW.out.drew) hb7)
        clear hb7 HJ a0 a1 a2 a3 a4 b0 b1' b2' b3 b4 z1 z2 e0 e1 e2 e3 e4 g0 g1 g2 g3 g4
        go_wp2_with fail
        go_roundg (m' - (j + 1))
        case measure => omega
        case rel => exact ⟨j + 1, rfl, by omega, by go_num, HW7⟩
    · obtain rfl : j = m' := by omega
      have HWF := Lib.hid (Below.next HWB.out HW.out)
      have HZ := Lib.hid (Below.refl wr.heap.size wr)
      obtain ⟨wo, rfl⟩ : ∃ wo : World, wo = wr := ⟨_, rfl⟩
      go_wp2_with fail
      go_loopg [6] 0 (fun G i wq => G = 0 ∧ i = .int .i64 0 ∧ wo = wq)
      case atStart => exact ⟨rfl, rfl, rfl⟩
      case round =>
        obtain ⟨rfl, rfl, rfl⟩ := hrel
        go_wp2_with fail
        go_ret
        exact ⟨rfl, HWF.out⟩
end Go.Proofs.YtdlhocghiaghfaaGreatDoor

namespace Go.Proofs.YtdlhocghiaghfaaGreatDoor
open Go Go.RowKit

theorem idle_read (W : World) (q : Nat) (hq : BoxL W q 34 [.int .i64 4, .int .i64 0, .int .i64 0, .int .i64 0, .slice none 0 0, .int .i64 22, .int .i64 0, .int .i64 0, .int .i64 0, .slice none 0 0]) (B : Nat) (hB : q < B) :
    ProcR W B Peep.idleP [.int .i64 0, .bool false, .int .i64 1, .slice (some ⟨q, 0, none⟩) 2 2, .slice none 0 0] := by
  refine ⟨_, _, rfl, by simp [Peep.idleP], by simp [Peep.idleP], slC_of_box (n := 2) hq hB ?_ rfl (by omega), ⟨none, 0, 0, rfl, rfl, by omega, by omega, rfl, rfl⟩⟩
  refine ⟨[.int .i64 4, .int .i64 0, .int .i64 0, .int .i64 0, .slice none 0 0], [.int .i64 22, .int .i64 0, .int .i64 0, .int .i64 0, .slice none 0 0], rfl, rfl, ?_, [.int .i64 22, .int .i64 0, .int .i64 0, .int .i64 0, .slice none 0 0], [], rfl, rfl, ?_, rfl⟩
  · exact ⟨_, rfl, by decide, by decide, by decide, by decide, ⟨none, 0, 0, rfl, rfl, by omega, by omega, rfl, rfl⟩⟩
  · exact ⟨_, rfl, by decide, by decide, by decide, by decide, ⟨none, 0, 0, rfl, rfl, by omega, by omega, rfl, rfl⟩⟩

set_option maxHeartbeats 16000000 in
set_option maxRecDepth 100000 in
theorem peepAlone_walk (u : Unt) (v : Value) (n : Int) (w : World) (hv : UntR w w.heap.size u v) :
    Calls Tryz.prog 5 #[v, .int .i64 n] w fun e w' => e = .returned (.bool true) ∧ Below w.heap.size w w' := by
  obtain ⟨B, hBe⟩ : ∃ B, w.heap.size = B := ⟨_, rfl⟩
  rw [hBe] at hv
  have hB : B ≤ w.heap.size := by omega
  have HBE := Lib.hid hBe
  clear hBe
  have HV := Lib.hid hv
  obtain ⟨cv, pv, rfl, hc, hp⟩ := hv
  obtain ⟨op', np, cp', rfl, hnp, hcapp, hmaxp⟩ := hp.slice
  have HCONS := Lib.hid hc
  obtain ⟨ok, nk, ck, rfl, hcx⟩ := hc
  have HNP := Lib.hid hnp
  have HP := Lib.hid hp
  clear hcx hp hnp
  have HAW := Lib.hid (fun X => awake18_any (w.alloc X))
  have BU0 := Lib.hid (BoxL.new (W := w) rfl 25 [.slice ok nk ck, .slice op' np cp'])
  go_enter Tryz.func5, Tryz.ntmps5
  go_wp2_with fail
  refine (HAW.out _).mono ?_
  rintro e w0 ⟨rfl, hb0⟩
  have HB0 := Lib.hid (one_below hb0)
  have BU1 := Lib.hid (BU0.out.keep hb0)
  have U0 := BU1.out.cell 0 rfl
  have U1 := BU1.out.cell 1 rfl
  have hul := BU1.out.lt
  have hs0 := HB0.out.size
  obtain ⟨q, hq⟩ : ∃ q, Unt.fewB u 200 (10 * 200) = q := ⟨_, rfl⟩
  have HFE := Lib.hid (few18_any u _ 200 B w0 (HV.out.kept (HB0.out.mono hB)) (by omega) (by omega) (by omega) q hq)
  have HQF := Lib.hid hq
  clear hb0 hq HAW BU0
  go_wp2_with fail
  refine HFE.out.mono ?_
  rintro e w1 ⟨rfl, hb1⟩
  have HB1 := Lib.hid (Below.next HB0.out hb1)
  have BU2 := Lib.hid (BU1.out.keep hb1)
  clear hb1 HFE U0 U1 hul hs0
  cases q with
  | false =>
    go_wp2_with fail
    go_ret
    exact ⟨rfl, HB1.out⟩
  | true =>
    have U0 := BU2.out.cell 0 rfl
    have U1 := BU2.out.cell 1 rfl
    have hul := BU2.out.lt
    by_cases hn0 : n < 0
    · go_wp2_with fail
      go_ret
      exact ⟨rfl, HB1.out⟩
    · by_cases hnl : (np : Int) ≤ n
      · go_wp2_with fail
        go_ret
        exact ⟨rfl, HB1.out⟩
      · obtain ⟨nn, rfl⟩ : ∃ nn : Nat, n = nn := ⟨n.toNat, by omega⟩
        have hnn : nn < np := by omega
        clear hn0 hnl
        have HSH := Lib.hid (Live.short_of_few HQF.out (by decide))
        have HNL := Lib.hid (show np ≤ 1000000 from by
          have hfew := HQF.out
          simp only [Unt.fewB, Bool.and_eq_true, Bool.not_eq_true', decide_eq_false_iff_not] at hfew
          have := HNP.out
          omega)
        have hs1 := HB1.out.size
        have HCL := Lib.hid (cleanU_any u _ B w1 (HV.out.kept (HB1.out.mono hB)) (by omega) HSH.out (by have := few_consts HQF.out; omega))
        obtain ⟨er, her⟩ : ∃ er, Peep.clErr u = er := ⟨_, rfl⟩
        rw [her] at HCL
        have HER := Lib.hid her
        clear her
        go_wp2_with fail
        refine HCL.out.mono ?_
        rintro e w2 ⟨cv, pv, rfl, hu, hb2⟩
        obtain ⟨cv', pv', he, hcv, hpv⟩ := hu
        simp only [Value.agg.injEq, Array.mk.injEq, List.cons.injEq, and_true] at he
        obtain ⟨rfl, rfl⟩ := he
        obtain ⟨o0, l0, c0, rfl, hcx⟩ := hcv
        clear hcx
        obtain ⟨o1, l1, c1, rfl⟩ := hpv.form
        have HPV := Lib.hid hpv
        have HB2 := Lib.hid (Below.next HB1.out hb2)
        have U0 := ((BU2.out.keep hb2).alloc (.cells #[.slice o0 l0 c0, .slice o1 l1 c1] 25)).cell 0 rfl
        have U1 := ((BU2.out.keep hb2).alloc (.cells #[.slice o0 l0 c0, .slice o1 l1 c1] 25)).cell 1 rfl
        have hul2 := (BU2.out.keep hb2).lt
        have BU3 := Lib.hid (BU2.out.keep hb2)
        clear hpv hb2 HCL U0 U1 hul
        have U0 := BU3.out.cell 0 rfl
        have U1 := BU3.out.cell 1 rfl
        go_upto_region 6 with fail
        obtain ⟨W5, hW5⟩ : ∃ W5, (w2.alloc (.cells #[.slice o0 l0 c0, .slice o1 l1 c1] 25)).alloc (.cells #[.slice ok nk ck, .slice none 0 0] 25) = W5 := ⟨_, rfl⟩
        have hz5 : W5.heap.size = w2.heap.size + 2 := by rw [← hW5]; simp
        have B6 := Lib.hid (show BoxL W5 w2.heap.size 25 [.slice o0 l0 c0, .slice o1 l1 c1] from by rw [← hW5]; exact (BoxL.new rfl _ _).alloc _)
        have B8 := Lib.hid (show BoxL W5 (w2.heap.size + 1) 25 [.slice ok nk ck, .slice none 0 0] from by rw [← hW5]; exact BoxL.new (by simp) _ _)
        have HW25 := Lib.hid (show Below w2.heap.size w2 W5 from by rw [← hW5]; exact (Below.one w2 _).trans ((Below.one _ _).mono (by simp)))
        have BU5 := Lib.hid (BU3.out.keep HW25.out)
        have HWW := Lib.hid (Below.next HB2.out HW25.out)
        have HI0 := Lib.hid (show AlI u nn (w2.heap.size + 1) (w2.heap.size + 1) (.slice ok nk ck) W5 0 W5 from ⟨.slice none 0 0, [], Below.refl _ _, B8.out, ⟨_, _, _, rfl⟩, World.ownsRow_nil _ _ _ _, Nat.le_refl _, rfl⟩)
        rw [hW5]
        clear hW5 U0 U1 B8 BU3 BU2
        have u1 := BU5.out.cell 1 rfl
        have hul := BU5.out.lt
        have HZ5 := Lib.hid hz5
        clear hz5
        go_wp2_with fail
        go_loopg [9] np (fun G i wr => ∃ j : Nat, G = np - j ∧ j ≤ np ∧ i = .int .i64 j ∧ Hid (AlI u nn (w2.heap.size + 1) (w2.heap.size + 1) (.slice ok nk ck) W5 j wr))
        case atStart => exact ⟨0, rfl, by omega, rfl, HI0⟩
        case round =>
          obtain ⟨j, rfl, hj, rfl, HI⟩ := hrel
          clear HI0 u1 hul
          obtain ⟨v, xs, hb, hbx, ⟨ov, lv, cv2, rfl⟩, hown, hH, hcs⟩ := HI.out
          have hzr := hb.size
          have bu : BoxL wr w.heap.size 25 [.slice ok nk ck, .slice op' np cp'] := (hb.block _ (by omega)).trans BU5.out
          have u1 := bu.cell 1 rfl
          have hul := bu.lt
          by_cases hjl : j < np
          · have HBX := Lib.hid hbx
            have HOW := Lib.hid hown
            have HCS := Lib.hid hcs
            have HBB := Lib.hid hb
            have HBU := Lib.hid bu
            clear hbx hown hcs hb bu
            go_upto_region 10 with fail
            have BI := Lib.hid (BoxL.new (W := wr) rfl 34 [.int .i64 4, .int .i64 0, .int .i64 0, .int .i64 0, .slice none 0 0, .int .i64 22, .int .i64 0, .int .i64 0, .int .i64 0, .slice none 0 0])
            obtain ⟨W0, hW0⟩ : ∃ W0, (wr.alloc (.cells #[.int .i64 4, .int .i64 0, .int .i64 0, .int .i64 0, .slice none 0 0, .int .i64 22, .int .i64 0, .int .i64 0, .int .i64 0, .slice none 0 0] 34)).alloc (.cells #[.int .i64 0, .bool false, .int .i64 1, .slice (some ⟨wr.heap.size, 0, none⟩) 2 2, .slice none 0 0] 31) = W0 := ⟨_, rfl⟩
            have BQ := Lib.hid (show BoxL W0 wr.heap.size 34 [.int .i64 4, .int .i64 0, .int .i64 0, .int .i64 0, .slice none 0 0, .int .i64 22, .int .i64 0, .int .i64 0, .int .i64 0, .slice none 0 0] from by rw [← hW0]; exact BI.out.alloc _)
            have BP := Lib.hid (show BoxL W0 (wr.heap.size + 1) 31 [.int .i64 0, .bool false, .int .i64 1, .slice (some ⟨wr.heap.size, 0, none⟩) 2 2, .slice none 0 0] from by rw [← hW0]; exact BoxL.new (by simp) _ _)
            have HW0 := Lib.hid (show Below wr.heap.size wr W0 from by rw [← hW0]; exact (Below.one wr _).trans ((Below.one _ _).mono (by simp)))
            rw [hW0]
            clear hW0 BI u1 hul
            by_cases hjn : j = nn
            · subst hjn
              obtain ⟨p, hpj⟩ : ∃ p, u.procs[j]? = some p := ⟨_, List.getElem?_eq_getElem (by rw [← HNP.out]; exact hjl)⟩
              have HBW := Lib.hid (show Below B w W0 from (Below.next (HWW.out.trans (HBB.out.mono (by have := BU5.out.lt; have := HB2.out.size; omega))) HW0.out).mono hB)
              obtain ⟨b1, off1, cs, ho1, hbB, hcl, hcell, hpr⟩ := HP.out.at HBW.out hpj
              subst ho1
              match cs, hcl with
              | [d0, d1, d2, d3, d4], _ =>
                have e0 := hcell 0 _ rfl
                have e1 := hcell 1 _ rfl
                have e2 := hcell 2 _ rfl
                have e3 := hcell 3 _ rfl
                have e4 := hcell 4 _ rfl
                rw [Nat.add_zero] at e0
                have hbl := cell_lt e0
                have u1 := (HBU.out.keep HW0.out).cell 1 rfl
                have hul := (HBU.out.keep HW0.out).lt
                have x0 := BP.out.free 0
                have x1 := BP.out.free 1
                have x2 := BP.out.free 2
                have x3 := BP.out.free 3
                have x4 := BP.out.free 4
                have y0 := BP.out.cell 0 rfl
                have y1 := BP.out.cell 1 rfl
                have y2 := BP.out.cell 2 rfl
                have y3 := BP.out.cell 3 rfl
                have y4 := BP.out.cell 4 rfl
                have hxl := BP.out.lt
                have HPR := Lib.hid hpr
                have HPJ := Lib.hid hpj
                obtain ⟨sl, al, he, _, _, hsl, hal⟩ := hpr
                obtain ⟨osl, lsl, csl, rfl⟩ := hsl.form
                obtain ⟨oal, lal, cal, rfl⟩ := hal.form
                obtain ⟨args, rest, regs, code, alive⟩ := p
                simp only [List.cons.injEq, and_true] at he
                obtain ⟨rfl, rfl, rfl, rfl, rfl⟩ := he
                clear hcell hcl hpj hsl hal
                go_upto_region 12 with fail
                obtain ⟨W1, hW1⟩ : ∃ W1, (((((W0.setCell ⟨wr.heap.size + 1, 0, none⟩ (.int .i64 args)).setCell ⟨wr.heap.size + 1, 1, none⟩ (.bool rest)).setCell ⟨wr.heap.size + 1, 2, none⟩ (.int .i64 regs)).setCell ⟨wr.heap.size + 1, 3, none⟩ (.slice osl lsl csl)).setCell ⟨wr.heap.size + 1, 4, none⟩ (.slice oal lal cal)) = W1 := ⟨_, rfl⟩
                have BP1 := Lib.hid (show BoxL W1 (wr.heap.size + 1) 31 [.int .i64 args, .bool rest, .int .i64 regs, .slice osl lsl csl, .slice oal lal cal] from by rw [← hW1]; exact BP.out.set5 0 (.int .i64 args) (.bool rest) (.int .i64 regs) (.slice osl lsl csl) (.slice oal lal cal))
                have HW1 := Lib.hid (show Below wr.heap.size wr W1 from by rw [← hW1]; exact Below.sets5 HW0.out (g := wr.heap.size + 1) (by omega) 0 _ _ _ _ _)
                have HNEW := Lib.hid (show ProcM W1 (fun b => b = w2.heap.size + 1 ∨ (Value.slice ov lv cv2).ownBlock = some b) (Peep.aloneP u j j) [.int .i64 args, .bool rest, .int .i64 regs, .slice osl lsl csl, .slice oal lal cal] from by
                  have hle : w.heap.size ≤ w2.heap.size + 1 := by have := HB2.out.size; omega
                  rw [Peep.alone_at HPJ.out]
                  refine ⟨w, B, (Sub.self fun b h => ?_).below (Below.next (HWW.out.trans (HBB.out.mono hle)) HW1.out), by have := HW1.out.size; have := HBE.out; have := HZ5.out; omega, HPR.out⟩
                  rcases h with h | h
                  · omega
                  · have := (HOW.out.lt b h).1
                    omega)
                rw [hW1]
                clear hW1 BP e0 e1 e2 e3 e4 hbl u1 hul x0 x1 x2 x3 x4 y0 y1 y2 y3 y4 hxl HPR HPJ
                obtain ⟨i0, hi0, hz0, hz1, hz2⟩ := info_parts info_procC
                have y0 := BP1.out.cell 0 rfl
                have y1 := BP1.out.cell 1 rfl
                have y2 := BP1.out.cell 2 rfl
                have y3 := BP1.out.cell 3 rfl
                have y4 := BP1.out.cell 4 rfl
                have hxl := BP1.out.lt
                have z1 := (HBX.out.keep HW1.out).cell 1 rfl
                have hzl := (HBX.out.keep HW1.out).lt
                have HOW1 := Lib.hid (ownsRow_keep HOW.out HW1.out)
                have hw1s := HW1.out.size
                have hz5 := HZ5.out
                have hnpm : np ≤ 9223372036854775807 := by omega
                go_wp2_with (at_builtin; refine wpList_append_lies _ rfl (.tmp 57) (.tmp 59) 23 rfl (w2.heap.size + 1) 31 i0 (.agg #[.int .i64 0, .bool false, .int .i64 0, .slice none 0 0, .slice none 0 0]) 5 72 Tryz.underlying23 hi0 hz0 hz1 hz2 rfl (by decide) (.slice ov lv cv2) j xs rfl (HOW1.out.alloc _) ⟨W1.heap.size, 0, none⟩ 1 1 [.int .i64 args, .bool rest, .int .i64 regs, .slice osl lsl csl, .slice oal lal cal] rfl rfl (new_cells W1 _ _) (by intro u hu; simp only [List.mem_cons, List.not_mem_nil, or_false] at hu; rcases hu with rfl | rfl | rfl | rfl | rfl <;> rfl) (by decide) (by unfold maxLen; have := HNL.out; omega) (by have := HNL.out; omega) (by simp; omega) (W1.heap.size + 1) (by simp) ?_)
                intro g c w7 h1 h2 h3 _
                have hst := alI_step HBB.out HBX.out HOW.out hH HCS.out HW1.out HNEW.out h2 h1 h3
                have s1 := hst.1.cell 1 rfl
                have s2 := hst.1.free 1
                have s3 := hst.1.lt
                have HF2 := Lib.hid hst.2
                clear hst h1 h2 h3 y0 y1 y2 y3 y4 hxl z1 hzl
                go_wp2_with fail
                go_roundg (np - (j + 1))
                case measure => omega
                case rel => exact ⟨j + 1, rfl, by omega, by go_num, HF2⟩
            · have b1 := BP.out.lt
              go_upto_region 12 with fail
              clear b1
              obtain ⟨W1, hW1⟩ : ∃ W1, W0 = W1 := ⟨_, rfl⟩
              have BP1 := Lib.hid (show BoxL W1 (wr.heap.size + 1) 31 [.int .i64 0, .bool false, .int .i64 1, .slice (some ⟨wr.heap.size, 0, none⟩) 2 2, .slice none 0 0] from by rw [← hW1]; exact BP.out)
              have HW1 := Lib.hid (show Below wr.heap.size wr W1 from by rw [← hW1]; exact HW0.out)
              have HNEW := Lib.hid (show ProcM W1 (fun b => b = w2.heap.size + 1 ∨ (Value.slice ov lv cv2).ownBlock = some b) (Peep.aloneP u nn j) [.int .i64 0, .bool false, .int .i64 1, .slice (some ⟨wr.heap.size, 0, none⟩) 2 2, .slice none 0 0] from by
                rw [Peep.aloneP, if_neg hjn, ← hW1]
                refine ⟨gap W0 0 wr.heap.size, W0.heap.size, Sub.of_gap fun b h => ?_, Nat.le_refl _, idle_read _ wr.heap.size ((gap_heap (by omega)).trans BQ.out) _ BQ.out.lt⟩
                rcases h with h | h
                · have := HZ5.out
                  omega
                · have := (HOW.out.lt b h).2
                  omega)
              rw [hW1]
              clear hW1 BP
              obtain ⟨i0, hi0, hz0, hz1, hz2⟩ := info_parts info_procC
              have y0 := BP1.out.cell 0 rfl
              have y1 := BP1.out.cell 1 rfl
              have y2 := BP1.out.cell 2 rfl
              have y3 := BP1.out.cell 3 rfl
              have y4 := BP1.out.cell 4 rfl
              have hxl := BP1.out.lt
              have z1 := (HBX.out.keep HW1.out).cell 1 rfl
              have hzl := (HBX.out.keep HW1.out).lt
              have HOW1 := Lib.hid (ownsRow_keep HOW.out HW1.out)
              have hw1s := HW1.out.size
              have hz5 := HZ5.out
              have hnpm : np ≤ 9223372036854775807 := by omega
              go_wp2_with (at_builtin; refine wpList_append_lies _ rfl (.tmp 57) (.tmp 59) 23 rfl (w2.heap.size + 1) 31 i0 (.agg #[.int .i64 0, .bool false, .int .i64 0, .slice none 0 0, .slice none 0 0]) 5 72 Tryz.underlying23 hi0 hz0 hz1 hz2 rfl (by decide) (.slice ov lv cv2) j xs rfl (HOW1.out.alloc _) ⟨W1.heap.size, 0, none⟩ 1 1 [.int .i64 0, .bool false, .int .i64 1, .slice (some ⟨wr.heap.size, 0, none⟩) 2 2, .slice none 0 0] rfl rfl (new_cells W1 _ _) (by intro u hu; simp only [List.mem_cons, List.not_mem_nil, or_false] at hu; rcases hu with rfl | rfl | rfl | rfl | rfl <;> rfl) (by decide) (by unfold maxLen; have := HNL.out; omega) (by have := HNL.out; omega) (by simp; omega) (W1.heap.size + 1) (by simp) ?_)
              intro g c w7 h1 h2 h3 _
              have hst := alI_step HBB.out HBX.out HOW.out hH HCS.out HW1.out HNEW.out h2 h1 h3
              have s1 := hst.1.cell 1 rfl
              have s2 := hst.1.free 1
              have s3 := hst.1.lt
              have HF2 := Lib.hid hst.2
              clear hst h1 h2 h3 y0 y1 y2 y3 y4 hxl z1 hzl
              go_wp2_with fail
              go_roundg (np - (j + 1))
              case measure => omega
              case rel => exact ⟨j + 1, rfl, by omega, by go_num, HF2⟩
          · obtain rfl : j = np := by omega
            have hle : w.heap.size ≤ w2.heap.size + 1 := by have := HB2.out.size; omega
            have HBB := Lib.hid (show Below w.heap.size w wr from HWW.out.trans (hb.mono hle))
            have HB2B := Lib.hid (show Below w2.heap.size w2 wr from HW25.out.trans (hb.mono (by omega)))
            have HBU := Lib.hid bu
            have HB6 := Lib.hid (show BoxL wr w2.heap.size 25 [.slice o0 l0 c0, .slice o1 l1 c1] from (hb.block _ (by omega)).trans B6.out)
            have q0 := hbx.cell 0 rfl
            have q1 := hbx.cell 1 rfl
            have hql := hbx.lt
            have e : (Peep.aloneU u nn).procs = (List.range j).map (Peep.aloneP u nn) := by rw [HNP.out]; rfl
            have hsl : SlC wr wr.heap.size 5 (ProcR wr wr.heap.size) (Peep.aloneU u nn).procs (.slice ov lv cv2) := by
              rw [e]
              exact slC_of_row (te := 31) (base := w2.heap.size + 1) (by rw [List.length_map, List.length_range]; exact hown) (hcs.mono fun x _ cs h => h.read)
            have HUR := Lib.hid (show UntR wr wr.heap.size (Peep.aloneU u nn) (.agg #[.slice ok nk ck, .slice ov lv cv2]) from ⟨_, _, rfl, HCONS.out.cellsTo (W := wr) (fun b o x hx => keepC HBB.out hx) (by have := HBE.out; have := HBB.out.size; omega), hsl⟩)
            have HC2 := Lib.hid (cleanU_any (Peep.aloneU u nn) _ wr.heap.size wr HUR.out (Nat.le_refl _) (Peep.alone_short HSH.out) (by have := few_consts HQF.out; exact Nat.le_trans this (by omega)))
            obtain ⟨er2, her2⟩ : ∃ er2, Peep.clErr (Peep.aloneU u nn) = er2 := ⟨_, rfl⟩
            rw [her2] at HC2
            have HER2 := Lib.hid her2
            clear her2 hsl e hb hbx hown hcs bu
            go_wp2_with fail
            refine HC2.out.mono ?_
            rintro e w3 ⟨cv, pv, rfl, hu, hb3⟩
            obtain ⟨cv', pv', he, hcv, hpv⟩ := hu
            simp only [Value.agg.injEq, Array.mk.injEq, List.cons.injEq, and_true] at he
            obtain ⟨rfl, rfl⟩ := he
            obtain ⟨o2, l2, c2, rfl, hcx⟩ := hcv
            clear hcx
            obtain ⟨o3, l3, c3, rfl⟩ := hpv.form
            have HPX := Lib.hid hpv
            have HB3 := Lib.hid hb3
            clear hpv hb3 HC2 q0 q1 hql u1 hul
            go_upto_region 14 with fail
            obtain ⟨W9, hW9⟩ : ∃ W9, w3.alloc (.cells #[.slice o2 l2 c2, .slice o3 l3 c3] 25) = W9 := ⟨_, rfl⟩
            have HW39 := Lib.hid (show Below w3.heap.size w3 W9 from by rw [← hW9]; exact Below.one w3 _)
            have B11 := Lib.hid (show BoxL W9 w3.heap.size 25 [.slice o2 l2 c2, .slice o3 l3 c3] from by rw [← hW9]; exact BoxL.new rfl _ _)
            rw [hW9]
            clear hW9
            have HR9 := Lib.hid (Below.next HB3.out HW39.out)
            have HBF := Lib.hid (Below.next HBB.out HR9.out)
            cases hok : Peep.clOk u with
            | false =>
              obtain rfl : er = 5 := by rw [← HER.out, Peep.clErr, hok]; rfl
              clear hok
              go_wp2_with fail
              go_ret
              exact ⟨rfl, HBF.out⟩
            | true =>
              have hok2 := Peep.alone_ok (n := nn) hok HQF.out
              obtain rfl : er = 0 := by rw [← HER.out, Peep.clErr, hok]; rfl
              obtain rfl : er2 = 0 := by rw [← HER2.out, Peep.clErr, hok2]; rfl
              have e1 : (Peep.cleanU u).procs = u.procs.map Peep.cleanP := by rw [Peep.cleanU, hok]; rfl
              have e2 : (Peep.cleanU (Peep.aloneU u nn)).procs = (Peep.aloneU u nn).procs.map Peep.cleanP := by rw [Peep.cleanU, hok2]; rfl
              have hl1 : l1 = j := by rw [HPV.out.lens.1, e1, List.length_map, HNP.out]
              have hl3 : l3 = j := by rw [HPX.out.lens.1, e2, List.length_map, HNP.out]; simp [Peep.aloneU]
              subst hl1
              subst hl3
              obtain ⟨p, hpj⟩ : ∃ p, u.procs[nn]? = some p := ⟨_, List.getElem?_eq_getElem (by rw [← HNP.out]; exact hnn)⟩
              have hp1 : (Peep.cleanU u).procs[nn]? = some (Peep.cleanP p) := by rw [e1]; simp [hpj]
              have hp2 : (Peep.cleanU (Peep.aloneU u nn)).procs[nn]? = some (Peep.cleanP p) := by rw [e2, List.getElem?_map, Peep.alone_get hpj]; rfl
              have HS1 := Lib.hid (show Below w2.heap.size w2 W9 from HB2B.out.trans (HR9.out.mono HB2B.out.size))
              obtain ⟨b1, f1, cs1, ho1, hb1, hcl1, hcell1, hpr1⟩ := HPV.out.at HS1.out hp1
              obtain ⟨b2, f2, cs2, ho2, hb2, hcl2, hcell2, hpr2⟩ := HPX.out.at HW39.out hp2
              subst ho1 ho2
              match cs1, hcl1, cs2, hcl2 with
              | [s0, s1, s2, s3, s4], _, [t0, t1, t2, t3, t4], _ =>
                have e0 := hcell1 0 _ rfl
                have e1 := hcell1 1 _ rfl
                have e2 := hcell1 2 _ rfl
                have e3 := hcell1 3 _ rfl
                have e4 := hcell1 4 _ rfl
                have g0 := hcell2 0 _ rfl
                have g1 := hcell2 1 _ rfl
                have g2 := hcell2 2 _ rfl
                have g3 := hcell2 3 _ rfl
                have g4 := hcell2 4 _ rfl
                rw [Nat.add_zero] at e0 g0
                have hs39 := HW39.out.size
                have hs29 := HS1.out.size
                have HJ := Lib.hid (fun (V : World) (hV : V = W9.drew) => sameProc_self (Peep.cleanP p) rfl s0 s1 s2 s3 s4 t0 t1 t2 t3 t4 W9.heap.size V ((hpr1.kept (by rw [hV]; exact HS1.out.drew)).wider hs29) ((hpr2.kept (by rw [hV]; exact HW39.out.drew)).wider hs39) (by rw [hV]; exact Nat.le_refl _) (Nat.le_trans (Peep.cleanC_len _) (Nat.le_trans (HSH.out p (List.mem_of_getElem? hpj)).1 (by omega))))
                have hbl1 := cell_lt e0
                have hbl2 := cell_lt g0
                have x1 := B11.out.cell 1 rfl
                have hx1 := B11.out.lt
                have B69 := HB6.out.keep HR9.out
                have x6 := B69.cell 1 rfl
                have hx6 := B69.lt
                have BU9 := HBU.out.keep HR9.out
                have xu := BU9.cell 1 rfl
                have hxu := BU9.lt
                clear hcell1 hcell2 hcl1 hcl2 hpr1 hpr2 hp1 hp2 hpj hok hok2 B69 BU9
                go_upto_region 16 with fail
                refine wp_region_quiet_class (fun V => V = W9.drew) 30 (by kernel_rfl) (by kernel_rfl) rfl ?_
                intro T _ Wd HWd HWd2
                have a0 := fun s => cell_qd (HWd s) e0
                have a1 := fun s => cell_qd (HWd s) e1
                have a2 := fun s => cell_qd (HWd s) e2
                have a3 := fun s => cell_qd (HWd s) e3
                have a4 := fun s => cell_qd (HWd s) e4
                have b0 := fun s => cell_qd (HWd s) g0
                have b1' := fun s => cell_qd (HWd s) g1
                have b2' := fun s => cell_qd (HWd s) g2
                have b3 := fun s => cell_qd (HWd s) g3
                have b4 := fun s => cell_qd (HWd s) g4
                have z1 := fun s => cell_qd (HWd s) x1
                have z2 := fun s => cell_qd (HWd s) x6
                have z3 := fun s => cell_qd (HWd s) xu
                have HWH := Lib.hid HWd
                clear HWd HWd2
                simp only [List.take_succ_cons, List.take_zero, List.drop_succ_cons, List.drop_zero]
                repeat (go_big_quiet_step (fail))
                refine wpQuiet_nil ?_
                intro s
                go_wp2_with fail
                refine (HJ.out _ (HWH.out s)).mono ?_
                rintro e w7 ⟨rfl, hb7⟩
                have HW7 := Lib.hid (show Below w.heap.size w w7 from Below.next (by rw [HWH.out s]; exact HBF.out.drew) hb7)
                clear hb7 HJ a0 a1 a2 a3 a4 b0 b1' b2' b3 b4 z1 z2 z3 e0 e1 e2 e3 e4 g0 g1 g2 g3 g4
                go_wp2_with fail
                go_ret
                exact ⟨rfl, HW7.out⟩
end Go.Proofs.YtdlhocghiaghfaaGreatDoor

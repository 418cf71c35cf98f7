/-
  What the proofs lean on: MkP, MkW.
-/
import Derived.Deep.RegionWith
import Derived.Test.YtigkhmppnnljiaaGreatDoorShiftA20
import Derived.Test.YtigkhmppnnljiaaGreatDoorShiftA27
namespace Go.Proofs.YtigkhmppnnljiaaGreatDoor
open Go Go.RowKit Mk

theorem CellsG.turn {α : Type} {size : Nat} {R : α → List Value → Prop} {f : α → α} {j : Nat} {u : Value} (hj : j < size) (hR : ∀ x cs, R x cs → cs.length = size → R (f x) (cs.set j u)) : ∀ {l : List α} {xs : List Value} {k : Nat}, CellsG size R l xs → k < l.length → CellsG size R (l.modify k f) (xs.set (k * size + j) u)
  | [], _, k, _, hk => by simp at hk
  | x :: l, xs, 0, ⟨cs, r, he, hs, hx, hr⟩, _ => by
    rw [List.modify_zero_cons, Nat.zero_mul, Nat.zero_add, he]
    exact ⟨cs.set j u, r, by rw [List.set_append_left _ _ (by omega)], by simp [hs], hR x cs hx hs, hr⟩
  | x :: l, xs, k + 1, ⟨cs, r, he, hs, hx, hr⟩, hk => by
    rw [List.modify_succ_cons, he]
    refine ⟨cs, r.set (k * size + j) u, ?_, hs, hx, CellsG.turn hj hR hr (by simpa using hk)⟩
    rw [List.set_append_right _ _ (by rw [hs, Nat.add_mul]; omega), hs, show (k + 1) * size + j - size = k * size + j by rw [Nat.add_mul]; omega]
/-- The maker's row, opened. -/
theorem MkS.opened {W : World} {base mb vb : Nat} {cv : Value} {X : Nat → Prop} {s : MSt} (h : MkS W base mb vb cv X s) {k : Nat} {x : Ins} (hx : s.code[k]? = some x) : ∃ g cap L, cv = .slice (some ⟨g, 0, none⟩) s.code.length cap ∧ BoxL W g 34 L ∧ L[k * 5]? = some (.int .i64 x.op) ∧ L[k * 5 + 2]? = some (.int .i64 x.a) ∧ L[k * 5 + 3]? = some (.int .i64 x.b) := by
  obtain ⟨xs, hr, hc⟩ := h.row
  have hk := (List.getElem?_eq_some_iff.1 hx).1
  rcases hr.2 with ⟨_, h0⟩ | ⟨g, cap, cur, rfl, hb, hg, hle, hm, hsz, htk⟩
  · omega
  · obtain ⟨cs, h1, ⟨sl, hcs, _⟩, h3⟩ := hc.at hx
    subst hcs
    have ht : ∀ j u, xs[j]? = some u → cur.toList[j]? = some u := fun j u hj => by
      rw [← htk, List.getElem?_take] at hj
      split at hj
      · exact hj
      · cases hj
    exact ⟨g, cap, cur.toList, rfl, hg, ht _ _ (by simpa using h3 0 _ rfl), ht _ _ (h3 2 _ rfl), ht _ _ (h3 3 _ rfl)⟩
theorem MkS.patched {W : World} {base mb vb g cap : Nat} {X : Nat → Prop} {s s' : MSt} (h : MkS W base mb vb (.slice (some ⟨g, 0, none⟩) s.code.length cap) X s) {k j : Nat} (n : Int) (f : Ins → Ins) (hk : k < s.code.length) (hj : j < 5) (hs : s' = { s with code := s.code.modify k f })
    (hf : ∀ (R : Ins → List Value → Prop) x sl, (R = InsM (W.setCell ⟨g, k * 5 + j, none⟩ (.int .i64 n)) (fun b => SM mb vb (.slice (some ⟨g, 0, none⟩) s.code.length cap) b ∨ X b)) → R x [.int .i64 x.op, .int .i64 x.d, .int .i64 x.a, .int .i64 x.b, sl] → R (f x) ([.int .i64 x.op, .int .i64 x.d, .int .i64 x.a, .int .i64 x.b, sl].set j (.int .i64 n))) :
    MkS (W.setCell ⟨g, k * 5 + j, none⟩ (.int .i64 n)) base mb vb (.slice (some ⟨g, 0, none⟩) s.code.length cap) X s' := by
  subst hs
  obtain ⟨xs, hr, hc⟩ := h.row
  have hne : g ≠ mb := fun e => by
    obtain ⟨cs, fz, hg⟩ := own_row hr g rfl
    rw [e, show W.heap[mb]? = _ from h.box] at hg
    simp at hg
  have hnv : g ≠ vb := fun e => mapI_row_ne h.vars hr rfl e
  have hT : Turned (fun b => b = g) W (W.setCell ⟨g, k * 5 + j, none⟩ (.int .i64 n)) := Turned.set _ _ _ rfl
  refine ⟨h.box.other _ _ hne.symm, ⟨xs.set (k * 5 + j) (.int .i64 n), ?_, ?_⟩, h.vars.same (setCell_heap_other _ _ _ hnv.symm)⟩
  · have hl : (s.code.modify k f).length = s.code.length := by simp
    rw [hl]
    refine ⟨by simpa using hr.1, .inr ?_⟩
    rcases hr.2 with ⟨_, h0⟩ | ⟨g', cap', cur, he, hb, hg, hle, hm, hsz, htk⟩
    · omega
    · simp only [Value.slice.injEq, Option.some.injEq, Addr.mk.injEq, and_true, true_and] at he
      obtain ⟨rfl, rfl⟩ := he
      have hb2 : BoxL W g 34 cur.toList := hg
      refine ⟨g, cap, (cur.toList.set (k * 5 + j) (.int .i64 n)).toArray, rfl, hb, hb2.set _ _, hle, hm, by simpa using hsz, ?_⟩
      rw [show (cur.toList.set (k * 5 + j) (Value.int .i64 n)).toArray.toList = cur.toList.set (k * 5 + j) (Value.int .i64 n) from rfl, List.take_set, htk]
  · refine CellsG.turn (f := f) hj (fun x cs hx hl => ?_) (hc.mono fun x _ cs hx => hx.kept hT (fun b _ hb => .inl (.inr (.inr (by rw [hb]; rfl)))) (fun _ _ h => h)) hk
    obtain ⟨sl, rfl, h1⟩ := hx
    exact hf _ x sl rfl ⟨sl, rfl, h1⟩
/-- A jif's place to go on at is laid. -/
theorem tell_jif {B base mb vb : Nat} {cv : Value} {X : Nat → Prop} {s : MSt} (W : World) (h : MkIn W B base mb vb cv X s) (pb cb k : Nat) (x : Ins) (hx : s.code[k]? = some x) (hop : x.op ≠ 15) (hlen : s.code.length ≤ 1000000) (hp : BoxL W pb 107 [.pointer (some ⟨mb, 0, none⟩)]) (hc : BoxL W cb 3 [.int .i64 k]) :
    Calls Tryz.prog 165 #[.pointer (some ⟨pb, 0, none⟩), .pointer (some ⟨cb, 0, none⟩)] W fun e w' => e = .returned (.tuple #[]) ∧ MkGo B base mb vb cv cv X (s.setB k s.len) W w' := by
  have hk := (List.getElem?_eq_some_iff.1 hx).1
  obtain ⟨g, cap, L, rfl, hg, h0, h2, h3⟩ := h.st.opened hx
  refine (lay1_jif pb cb mb g s.code.length cap k s.regs x.op x.b (.map (some vb)) W L hp hc h.st.box hg h0 hop h3 hk hlen).mono ?_
  rintro e w' ⟨rfl, j, rfl⟩
  have hd : Below W.heap.size W (W.drewN j) := Below.drewN (Below.refl _ _) j
  have hS := (h.st.below hd).patched (k := k) (j := 3) (s.code.length : Int) (fun x => { x with b := (s.code.length : Int) }) hk (by omega) rfl (fun R x sl hR hx => by
    subst hR
    obtain ⟨sl', he, a1, a2, a3, a4, a5⟩ := hx
    exact ⟨sl, rfl, a1, a2, a3, ⟨by show _ ≤ (s.code.length : Int); omega, by show (s.code.length : Int) ≤ _; omega⟩, by simp only [List.cons.injEq, and_true, true_and] at he; subst he; exact a5⟩)
  have hT : Turned (SM mb vb (.slice (some ⟨g, 0, none⟩) s.code.length cap)) W ((W.drewN j).setCell ⟨g, k * 5 + 3, none⟩ (.int .i64 (s.code.length : Int))) := (Turned.of_below hd).next (Turned.set _ _ _ (.inr (.inr rfl)))
  exact ⟨rfl, ⟨hS, h.b1, h.b2, h.b3, Nat.le_trans h.b4 hT.size, fun b hb => Nat.lt_of_lt_of_le (h.bx b hb) hT.size⟩, hT, fun _ _ h => h, hT.below h.low h.size⟩
/-- A jmp's place to go on at is laid. -/
theorem tell_jmp {B base mb vb : Nat} {cv : Value} {X : Nat → Prop} {s : MSt} (W : World) (h : MkIn W B base mb vb cv X s) (pb cb k : Nat) (x : Ins) (hx : s.code[k]? = some x) (hop : x.op = 15) (hlen : s.code.length ≤ 1000000) (hp : BoxL W pb 107 [.pointer (some ⟨mb, 0, none⟩)]) (hc : BoxL W cb 3 [.int .i64 k]) :
    Calls Tryz.prog 165 #[.pointer (some ⟨pb, 0, none⟩), .pointer (some ⟨cb, 0, none⟩)] W fun e w' => e = .returned (.tuple #[]) ∧ MkGo B base mb vb cv cv X (s.setA k s.len) W w' := by
  have hk := (List.getElem?_eq_some_iff.1 hx).1
  obtain ⟨g, cap, L, rfl, hg, h0, h2, h3⟩ := h.st.opened hx
  refine (lay1_jmp pb cb mb g s.code.length cap k s.regs x.a (.map (some vb)) W L hp hc h.st.box hg (by rw [← hop]; exact h0) h2 hk hlen).mono ?_
  rintro e w' ⟨rfl, j, rfl⟩
  have hd : Below W.heap.size W (W.drewN j) := Below.drewN (Below.refl _ _) j
  have hS := (h.st.below hd).patched (k := k) (j := 2) (s.code.length : Int) (fun x => { x with a := (s.code.length : Int) }) hk (by omega) rfl (fun R x sl hR hx => by
    subst hR
    obtain ⟨sl', he, a1, a2, a3, a4, a5⟩ := hx
    exact ⟨sl, rfl, a1, a2, ⟨by show _ ≤ (s.code.length : Int); omega, by show (s.code.length : Int) ≤ _; omega⟩, a4, by simp only [List.cons.injEq, and_true, true_and] at he; subst he; exact a5⟩)
  have hT : Turned (SM mb vb (.slice (some ⟨g, 0, none⟩) s.code.length cap)) W ((W.drewN j).setCell ⟨g, k * 5 + 2, none⟩ (.int .i64 (s.code.length : Int))) := (Turned.of_below hd).next (Turned.set _ _ _ (.inr (.inr rfl)))
  exact ⟨rfl, ⟨hS, h.b1, h.b2, h.b3, Nat.le_trans h.b4 hT.size, fun b hb => Nat.lt_of_lt_of_le (h.bx b hb) hT.size⟩, hT, fun _ _ h => h, hT.below h.low h.size⟩
/-- A box of the call's own is none of the maker's. -/
theorem MkS.boxApart {W : World} {base mb vb b : Nat} {cv : Value} {X : Nat → Prop} {s : MSt} {t : TypeId} {cs : List Value} (h : MkS W base mb vb cv X s) (hb : BoxL W b t cs) (h1 : t ≠ 110) (h2 : t ≠ 34) : ¬ SM mb vb cv b := fun hs => by
  rcases hs with rfl | rfl | hs
  · have e := (show W.heap[b]? = _ from h.box).symm.trans hb
    simp only [Option.some.injEq, Obj.cells.injEq] at e
    exact h1 e.2.1.symm
  · exact mapI_box_ne h.vars hb rfl
  · obtain ⟨xs, hr, _⟩ := h.row
    obtain ⟨cs', f, hc⟩ := own_row hr b hs
    have e := hc.symm.trans hb
    simp only [Option.some.injEq, Obj.cells.injEq] at e
    exact h2 e.2.1.symm
theorem IntsM.go {B base mb vb : Nat} {cv cv' v : Value} {X : Nat → Prop} {s : MSt} {w w' : World} {l : List Int} (h : IntsM w (fun b => SM mb vb cv b ∨ X b) l v) (hg : MkGo B base mb vb cv cv' X s w w') : IntsM w' (fun b => SM mb vb cv' b ∨ X b) l v := h.kept hg.turned (fun _ _ h => .inl h) (fun b hb h => h.imp (hg.less b hb) id)
theorem put_run {W : World} {b n : Nat} {f : Int → Int} (hown : MapVI W b n f) (hn : n < 1000000000000) (k c : Int) (hk : I64 k) (hc : I64 c) : ∃ w', (Instr.mapUpdate 108 (.map (some b)) (.int .i64 k) (.int .i64 c)).run Tryz.prog W = .ok () w' ∧ MapVI w' b (n + 1) (fun x => if x = k then c else f x) ∧ W.grownBy w' (some b) := by
  obtain ⟨D, h1, h2, h3⟩ := hown
  obtain ⟨w2, hrun, g1, g2⟩ := h1.update key_int Tryz.underlying108 (by unfold maxLen; omega) (keyOf_i64 hk) (plainElem_int Tryz.underlying3 (wf_i64 hc))
  exact ⟨w2, hrun, ⟨_, g1, h2.put _ _, MapVI.put h2 h3 k c⟩, g2⟩
/-- A variable has a register. -/
theorem MkIn.bound {W W' : World} {B base mb vb : Nat} {cv : Value} {X : Nat → Prop} {s : MSt} (h : MkIn W B base mb vb cv X s) (v r : Int) (hm : MapVI W' vb (s.vars.length + 1) (fun x => if x = v then r else Mk.lkL s.vars x)) (hg : W.grownBy W' (some vb)) : MkGo B base mb vb cv cv X (s.bind [v] [r]) W W' := by
  have hT : Turned (fun b => b = vb) W W' := Turned.grown hg (fun b hb => by simpa using hb.symm)
  have hS : Turned (SM mb vb cv) W W' := hT.wider fun b _ hb => .inr (.inl hb)
  obtain ⟨xs, hr, hc⟩ := h.st.row
  refine ⟨⟨⟨hT.box h.st.box (fun e => mapI_box_ne h.st.vars h.st.box e), ⟨xs, row_same hr (fun c hcc => hT.block c (ownBlock_lt hr hcc) (fun e => mapI_row_ne h.st.vars hr hcc e)), hc.mono fun x _ cs hx => hx.kept hT (fun b _ hb => .inl (.inr (.inl hb))) (fun _ _ h => h)⟩, ?_⟩, h.b1, h.b2, h.b3, Nat.le_trans h.b4 hT.size, fun b hb => Nat.lt_of_lt_of_le (h.bx b hb) hT.size⟩, hS, fun _ _ h => h, hS.below h.low h.size⟩
  have e : (s.bind [v] [r]).vars = s.vars ++ [(v, r)] := rfl
  rw [e, List.length_append, List.length_singleton]
  rw [show Mk.lkL (s.vars ++ [(v, r)]) = fun x => if x = v then r else Mk.lkL s.vars x from funext fun x => Mk.lkL_snoc _ _ _ _]
  exact hm
theorem MkGo.box {B base mb vb b : Nat} {cv cv' : Value} {X X' : Nat → Prop} {s s' : MSt} {w w' : World} {t : TypeId} {cs : List Value} (h : MkGo B base mb vb cv cv' X s' w w') (hi : MkIn w B base mb vb cv X' s) (hb : BoxL w b t cs) (h1 : t ≠ 110) (h2 : t ≠ 34) : BoxL w' b t cs := h.turned.box hb (hi.st.boxApart hb h1 h2)
end Go.Proofs.YtigkhmppnnljiaaGreatDoor

namespace Go.Proofs.YtigkhmppnnljiaaGreatDoor
open Go Go.RowKit Mk

/-- A new register. -/
theorem fresh_mk {B base mb vb : Nat} {cv : Value} {X : Nat → Prop} {s : MSt} (W : World) (h : MkIn W B base mb vb cv X s) (hr : Room s 1) :
    Calls Tryz.prog 146 #[.pointer (some ⟨mb, 0, none⟩)] W fun e w' => e = .returned (.int .i64 s.regs) ∧ MkGo B base mb vb cv cv X s.fresh W w' := by
  refine (fresh_any mb cv _ s.regs W h.st.box hr.2.1 (by have := hr.2.2.1; omega)).mono ?_
  rintro e w' ⟨rfl, rfl⟩
  have ht : Turned (SM mb vb cv) W (W.setCell ⟨mb, 1, none⟩ (.int .i64 (s.regs + 1))) := Turned.set _ _ _ (.inl rfl)
  exact ⟨rfl, ⟨h.st.fresh, h.b1, h.b2, h.b3, Nat.le_trans h.b4 ht.size, fun b hb => Nat.lt_of_lt_of_le (h.bx b hb) ht.size⟩, ht, fun _ _ h => h, ht.below h.low h.size⟩

set_option maxHeartbeats 4000000 in
set_option maxRecDepth 100000 in
theorem had_any (x : Trm) (hx : IntoC false x) : HadC x := by
  intro c0 c1 c2 c3 B base mb vb cv X s nc nk fr sc W hv hm hw hroom
  have hroom2 := Room.mono hroom (k' := 1) (by have := x.all_pos; omega)
  obtain ⟨W1, hW1⟩ : ∃ W1, W.alloc (.cells #[c0, c1, c2, c3] 41) = W1 := ⟨_, rfl⟩
  have HB1 := Lib.hid (show Below W.heap.size W W1 from by rw [← hW1]; exact Below.one W _)
  have HBX := Lib.hid (show BoxL W1 W.heap.size 41 [c0, c1, c2, c3] from by rw [← hW1]; exact BoxL.new rfl _ _)
  have HM := Lib.hid (hm.keep HB1.out)
  have hsz := hm.size
  have HV := Lib.hid (TrmR.kept (HB1.out.mono hm.size) _ _ hv)
  have HW := Lib.hid hW1
  have HX := Lib.hid hx
  have HLT := Lib.hid hm.st.lt
  obtain ⟨op, n, v, t⟩ := x
  have hsh : ∃ q r u q' r' u', c0 = .int .i64 op ∧ c1 = .int .i64 n ∧ c2 = .slice q r u ∧ c3 = .slice q' r' u' ∧ I64 n := by
    obtain ⟨vs', ts', he, _, hn, hvs, hts⟩ := trmR_iff.1 hv
    simp only [List.cons.injEq, and_true] at he
    obtain ⟨rfl, rfl, rfl, rfl⟩ := he
    obtain ⟨q, r, u, rfl⟩ := hvs.form
    obtain ⟨q', r', u', rfl⟩ := hts.form
    exact ⟨_, _, _, _, _, _, rfl, rfl, rfl, rfl, hn⟩
  obtain ⟨ov, lv, cvv, ot, lt, ct, rfl, rfl, rfl, rfl, hn⟩ := hsh
  have x0 := HBX.out.cell 0 rfl
  have x1 := HBX.out.cell 1 rfl
  have x2 := HBX.out.cell 2 rfl
  have x3 := HBX.out.cell 3 rfl
  have xl := HBX.out.lt
  by_cases h1 : op = 1
  · subst h1
    have hpost : (Mk.had Mk.lkL (.mk 1 n v t) s) = (Mk.lkL s.vars n, s) := by simp [Mk.had, Mk.hadW, Trm.op, Trm.n]
    rw [hpost]
    clear hv hm hx hW1 hw hroom hpost
    go_enter Tryz.func144, Tryz.ntmps144
    go_upto_region 2 with fail
    rw [HW.out]
    have y2 := HM.out.st.box.cell 2 rfl
    have yl := HM.out.st.box.lt
    have HD := Lib.hid ((Below.refl W1.heap.size W1).drew)
    refine wp_region_quiet_all (Below W1.heap.size W1) (by kernel_rfl) (by kernel_rfl) HD.out ?_
    intro T0 _ WW HWW HWW2
    have z1 : ∀ t, (WW t).cell? _ = _ := fun t => ((HWW t).cell (p := ⟨W.heap.size, 1, none⟩) xl).trans x1
    have z2 : ∀ t, (WW t).cell? _ = _ := fun t => ((HWW t).cell (p := ⟨mb, 2, none⟩) yl).trans y2
    have zk : ∀ t, (Instr.lookup 108 (.map (some vb)) (.int .i64 n) false).run Tryz.prog (WW t) = .ok (.int .i64 (Mk.lkL s.vars n)) (WW t) := fun t => look_run (HM.out.st.vars.keep (HWW t)) n hn
    have HWH := Lib.hid HWW
    clear HWW HWW2
    repeat (go_big_quiet_step (fail))
    refine wpQuiet_nil ?_
    intro t'
    have HBB := Lib.hid (HWH.out t')
    clear x0 x1 x2 x3 xl z1 z2 zk y2 yl
    go_wp2_with fail
    go_ret
    exact ⟨rfl, cv, ((MkGo.refl HM.out).after HBB.out).before HB1.out hsz⟩
  · have f1 : (op == 1) = false := by simpa using h1
    have hpost : (Mk.had Mk.lkL (.mk op n v t) s) = (s.regs, Mk.into Mk.lkL (.mk op n v t) s.regs false s.fresh) := if_neg h1
    rw [hpost]
    have HF := Lib.hid (fresh_mk W1 HM.out hroom2)
    have hro := Lib.hid hroom
    have hall := (Trm.mk op n v t).all_pos
    have hwf := Lib.hid hw
    clear hv hm hx hW1 hw hroom hpost
    go_enter Tryz.func144, Tryz.ntmps144
    go_upto_region 3 with fail
    rw [HW.out]
    go_wp2_with fail
    refine HF.out.mono ?_
    rintro e w2 ⟨rfl, hg⟩
    have HG := Lib.hid hg
    have HBX2 := Lib.hid (HG.out.turned.box HBX.out (fun hs => Nat.lt_irrefl _ (HLT.out _ hs)))
    have HI := Lib.hid (HX.out _ _ _ _ B base mb vb cv X s.fresh s.regs nc nk fr sc w2 (TrmR.kept HG.out.low _ _ HV.out) HG.out.inn hwf.out (Room.fresh (hro.out.mono (by omega))) ⟨hro.out.2.1, by have := hro.out.2.2.1; omega⟩)
    clear x0 x1 x2 x3 xl hg
    have x0 := HBX2.out.cell 0 rfl
    have x1 := HBX2.out.cell 1 rfl
    have x2 := HBX2.out.cell 2 rfl
    have x3 := HBX2.out.cell 3 rfl
    have xl := HBX2.out.lt
    go_wp2_with fail
    refine HI.out.mono ?_
    rintro e w3 ⟨rfl, cv', hg⟩
    have HG3 := Lib.hid ((HG.out.next hg).before HB1.out hsz)
    clear hg x0 x1 x2 x3 xl
    go_wp2_with fail
    go_ret
    exact ⟨rfl, _, HG3.out⟩
/-- A term's cells show their shape. -/
theorem TrmR.shape {W : World} {B : Nat} {x : Trm} {c0 c1 c2 c3 : Value} (h : TrmR W B x [c0, c1, c2, c3]) : ∃ q r u q' r' u', c0 = .int .i64 x.op ∧ c1 = .int .i64 x.n ∧ c2 = .slice q r u ∧ c3 = .slice q' r' u' ∧ I64 x.n := by
  obtain ⟨op, n, v, t⟩ := x
  obtain ⟨vs', ts', he, _, hn, hvs, hts⟩ := trmR_iff.1 h
  simp only [List.cons.injEq, and_true] at he
  obtain ⟨rfl, rfl, rfl, rfl⟩ := he
  obtain ⟨q, r, u, rfl⟩ := hvs.form
  obtain ⟨q', r', u', rfl⟩ := hts.form
  exact ⟨_, _, _, _, _, _, rfl, rfl, rfl, rfl, hn⟩
/-- Registers of terms, one more. -/
theorem allT_append (lk : List (Int × Int) → Int → Int) : ∀ (a b : List Trm) (s : MSt), Mk.allT lk (a ++ b) s = ((Mk.allT lk a s).1 ++ (Mk.allT lk b (Mk.allT lk a s).2).1, (Mk.allT lk b (Mk.allT lk a s).2).2)
  | [], b, s => by simp [Mk.allT]
  | x :: a, b, s => by
    rw [List.cons_append, Mk.allT, Mk.allT]
    simp only [allT_append lk a b]
    rfl
theorem allT_snoc (lk : List (Int × Int) → Int → Int) {l : List Trm} {j : Nat} {x : Trm} (h : l[j]? = some x) (s : MSt) : Mk.allT lk (l.take (j + 1)) s = ((Mk.allT lk (l.take j) s).1 ++ [(Mk.had lk x (Mk.allT lk (l.take j) s).2).1], (Mk.had lk x (Mk.allT lk (l.take j) s).2).2) := by
  rw [List.take_add_one, h, allT_append]
  simp [Mk.allT, Mk.had]
theorem allT_length (lk : List (Int × Int) → Int → Int) : ∀ (l : List Trm) (s : MSt), (Mk.allT lk l s).1.length = l.length
  | [], s => by simp [Mk.allT]
  | x :: l, s => by rw [Mk.allT]; simp [allT_length lk l]

set_option maxHeartbeats 4000000 in
set_option maxRecDepth 100000 in
theorem all_any (l : List Trm) (hl : ∀ x ∈ l, HadC x) : AllC l := by
  intro sl B base mb vb cv X s nc nk fr sc W hv hm hw hroom
  obtain ⟨o, len, cap, rfl⟩ := SlC.form hv
  obtain ⟨hlen, hcap, hmax⟩ := SlC.lens hv
  have HV := Lib.hid hv
  have HL := Lib.hid hlen
  have HM := Lib.hid hm
  have HLT := Lib.hid hm.st.lt
  have HH := Lib.hid hl
  have HWF := Lib.hid hw
  have HRO := Lib.hid hroom
  have hshort : l.length ≤ 300000 := by have := Trm.allL_length l; have := hroom.1; omega
  have hsz := hm.size
  have HB := Lib.hid (fun (j : Nat) => show ∀ x ∈ (Mk.allT Mk.lkL (l.take j) s).1, I64 x from fun x hx => by
    have h1 := (Room.allT (k := 0) Mk.lkL_ok (l.take j) s (hroom.mono (by have := allLT_take l j; omega))).2 x hx
    exact ⟨by omega, by omega⟩)
  clear hv hlen hm hl hw hroom
  go_enter Tryz.func109, Tryz.ntmps109
  go_wp2_with fail
  go_loopg [10, 5] len (fun g i ov wr => ∃ (j : Nat) (cv' : Value), g = len - j ∧ i = .int .i64 j ∧ j ≤ len ∧ Hid (MkGo B base mb vb cv cv' (fun b => X b ∨ ov.ownBlock = some b) (Mk.allT Mk.lkL (l.take j) s).2 W wr) ∧ Hid (wr.ownsRow W.heap.size 3 1 ov (Mk.allT Mk.lkL (l.take j) s).1.length ((Mk.allT Mk.lkL (l.take j) s).1.map (Value.int .i64))))
  case atStart => exact ⟨0, cv, rfl, rfl, by omega, Lib.hid (by simpa [Mk.allT] using MkGo.refl (HM.out.turn (X' := fun b => X b ∨ (Value.slice none 0 0).ownBlock = some b) (fun b _ h => h.elim id (fun h => by simp [Value.ownBlock] at h)) (fun b h => h.elim (HM.out.bx b) (fun h => by simp [Value.ownBlock] at h)))), Lib.hid (by simpa [Mk.allT] using World.ownsRow_nil _ _ _ _)⟩
  case round =>
    obtain ⟨j, cv', rfl, rfl, hj, HG, HO⟩ := hrel
    by_cases hjl : j < len
    · obtain ⟨x, hx⟩ : ∃ x, l[j]? = some x := ⟨_, List.getElem?_eq_getElem (by rw [← HL.out]; exact hjl)⟩
      obtain ⟨b, off, cs, ho, _, hcl, hcell, hr⟩ := SlC.at HV.out HG.out.low hx
      subst ho
      match cs, hcl with
      | [c0, c1, c2, c3], _ =>
        have e0 := hcell 0 _ rfl
        have e1 := hcell 1 _ rfl
        have e2 := hcell 2 _ rfl
        have e3 := hcell 3 _ rfl
        simp only [Nat.add_zero] at e0
        have hbl := cell_lt e0
        obtain ⟨qa, qb, qc, qd, qe, qf, rfl, rfl, rfl, rfl, _⟩ := TrmR.shape hr
        have hrm := Room.allT (k := 6 * x.all) Mk.lkL_ok (l.take j) s (HRO.out.mono (by have := allL_snoc hx; have := allLT_take l (j + 1); omega))
        obtain ⟨W1, hW1⟩ : ∃ W1, wr.alloc (.cells #[.int .i64 x.op, .int .i64 x.n, .slice qa qb qc, .slice qd qe qf] 41) = W1 := ⟨_, rfl⟩
        have HW1 := Lib.hid hW1
        have HB1 := Lib.hid (show Below wr.heap.size wr W1 from by rw [← hW1]; exact Below.one wr _)
        have HC := Lib.hid (HH.out x (List.mem_of_getElem? hx) _ _ _ _ B base mb vb cv' _ (Mk.allT Mk.lkL (l.take j) s).2 nc nk fr sc W1 (TrmR.kept (HG.out.low.trans (HB1.out.mono HG.out.inn.size)) _ _ hr) (HG.out.inn.keep HB1.out) (HWF.out x (List.mem_of_getElem? hx)) (hrm.1.mono (by omega)))
        have HX := Lib.hid hx
        have HTK := Lib.hid (allT_snoc Mk.lkL hx s)
        have hjb := Lib.hid (HB.out (j + 1))
        obtain ⟨q, hq⟩ : ∃ q, Mk.had Mk.lkL x (Mk.allT Mk.lkL (l.take j) s).2 = q := ⟨_, rfl⟩
        have HLEN := Lib.hid (show (Mk.allT Mk.lkL (l.take j) s).1.length = j from by rw [allT_length, List.length_take]; have := HL.out; omega)
        rw [hq] at HC HTK
        clear hr hrm hx hq hcell hW1
        go_wp2_with fail
        rw [HW1.out]
        refine HC.out.mono ?_
        rintro e w2 ⟨rfl, cv2, hg2⟩
        have HG2 := Lib.hid (HG.out.next (hg2.before HB1.out HG.out.inn.size))
        have hq64 : I64 q.1 := hjb.out _ (by rw [HTK.out]; simp)
        have HQ := Lib.hid hq64
        have HO2 := Lib.hid (row_same (ownsRow_keep HO.out HB1.out) (fun c hc => hg2.turned.block c (ownBlock_lt (ownsRow_keep HO.out HB1.out) hc) ((HG.out.inn.keep HB1.out).st.apart (ownsRow_keep HO.out HB1.out) c hc)))
        have hw2 : W.heap.size ≤ w2.heap.size := HG2.out.turned.size
        have hlen2 : (Mk.allT Mk.lkL (l.take j) s).1.length ≤ 300000 := by have := HLEN.out; have := HL.out; omega
        obtain ⟨i0, hi0, hz0, hz1, hz2⟩ := info_parts info_int
        clear hg2 hq64 e0 e1 e2 e3 hbl
        go_wp2_with (at_builtin; refine wpList_append_lies _ rfl (.tmp 14) (.tmp 18) 32 rfl W.heap.size 3 i0 (.int .i64 0) 1 8 Tryz.underlying32 hi0 hz0 hz1 hz2 rfl (by decide) u5 (Mk.allT Mk.lkL (l.take j) s).1.length _ rfl (HO2.out.alloc _) ⟨w2.heap.size, 0, none⟩ 1 1 [.int .i64 q.1] rfl rfl (new_cells w2 _ _) (by intro u hu; simp only [List.mem_cons, List.not_mem_nil, or_false] at hu; subst hu; rfl) (by decide) (by unfold maxLen; omega) (by omega) (by simp; omega) (w2.heap.size + 1) (by simp) ?_)
        intro g cap w3 hown hgrow hlie hglt
        have HT3 : Turned (fun b => u5.ownBlock = some b) w2 w3 := (Turned.of_below (Below.one w2 _)).next (Turned.grown hgrow (fun b h => h))
        have HTT : Turned (SM mb vb cv) W w3 := HG2.out.turned.trans HT3 (fun b hb h => by have := ownBlock_base HO2.out h; omega)
        have HGN := Lib.hid (show MkGo B base mb vb cv cv2 (fun b => X b ∨ (Value.slice (some ⟨g, 0, none⟩) ((Mk.allT Mk.lkL (l.take j) s).1.length + 1) cap).ownBlock = some b) (Mk.allT Mk.lkL (l.take (j + 1)) s).2 W w3 from by
          rw [HTK.out]
          refine ⟨⟨HG2.out.inn.st.keep HT3 (fun b _ h => ⟨.inr h, HG2.out.inn.st.apart HO2.out b h⟩) (fun b hb h => ?_), HG2.out.inn.b1, HG2.out.inn.b2, HG2.out.inn.b3, Nat.le_trans HG2.out.inn.b4 HT3.size, fun b h => ?_⟩, HTT, HG2.out.less, HTT.below HM.out.low hsz⟩
          · refine h.imp id fun e => ?_
            have e : g = b := by simpa [Value.ownBlock] using e
            subst e
            rcases hlie with h | h
            · exact h
            · omega
          · rcases h with h | h
            · exact Nat.lt_of_lt_of_le (HG2.out.inn.bx b (.inl h)) HT3.size
            · have e : g = b := by simpa [Value.ownBlock] using h
              subst e
              exact hglt)
        have HON := Lib.hid (show w3.ownsRow W.heap.size 3 1 (.slice (some ⟨g, 0, none⟩) ((Mk.allT Mk.lkL (l.take j) s).1.length + 1) cap) (Mk.allT Mk.lkL (l.take (j + 1)) s).1.length ((Mk.allT Mk.lkL (l.take (j + 1)) s).1.map (Value.int .i64)) from by
          rw [HTK.out]
          simpa using hown)
        clear hown hgrow hlie hglt HT3 HTT
        go_wp2_with fail
        go_roundg (len - (j + 1))
        case measure => omega
        case rel => exact ⟨j + 1, cv2, rfl, by go_num, by omega, HGN, HON⟩
    · obtain rfl : j = len := by omega
      have HE := Lib.hid (show l.take j = l from List.take_of_length_le (by rw [← HL.out]; exact Nat.le_refl _))
      have hg := HG.out
      have ho := HO.out
      have hb := HB.out j
      rw [HE.out] at hg ho hb
      have HG2 := Lib.hid (show MkGo B base mb vb cv cv' X (Mk.allT Mk.lkL l s).2 W wr from ⟨hg.inn.turn (fun b _ h => .inl h) (fun b h => hg.inn.bx b (.inl h)), hg.turned, hg.less, hg.low⟩)
      have HIN := Lib.hid (show IntsM wr (fun b => SM mb vb cv' b ∨ X b) (Mk.allT Mk.lkL l s).1 u5 from IntsM.of_row ho hb (fun b h hs => by
        rcases hs with hs | hs
        · exact hg.inn.st.apart ho b h hs
        · have := HM.out.bx b hs
          have := ownBlock_base ho h
          omega))
      clear hg ho hb HG HO
      go_wp2_with fail
      go_ret
      exact ⟨_, rfl, cv', HG2.out, HIN.out⟩
end Go.Proofs.YtigkhmppnnljiaaGreatDoor

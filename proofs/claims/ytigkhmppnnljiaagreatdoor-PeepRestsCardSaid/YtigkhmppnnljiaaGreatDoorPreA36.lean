/-
  What the proofs lean on: Zc, MkR.
-/
import Derived.Deep.RegionLaw
import Derived.Deep.AppendLies
import Derived.Test.YtigkhmppnnljiaaGreatDoorPreA19
import Derived.Test.YtigkhmppnnljiaaGreatDoorPreA23
import Derived.Test.YtigkhmppnnljiaaGreatDoorPreA26
import Derived.Test.YtigkhmppnnljiaaGreatDoorPreA28
import Derived.Test.YtigkhmppnnljiaaGreatDoorPreA35
set_option maxRecDepth 100000
set_option maxHeartbeats 16000000
namespace Go.Proofs.YtigkhmppnnljiaaGreatDoor
section
open Go Go.RowKit Mk
theorem ZkS.opened {W : World} {base mb : Nat} {K : KV} {X : Nat → Prop} {s : MSt} (h : ZkS W base mb K X s) {k : Nat} {x : Ins} (hx : s.code[k]? = some x) : ∃ g cap L, K.c = .slice (some ⟨g, 0, none⟩) s.code.length cap ∧ s.code.length ≤ cap ∧ cap ≤ 9223372036854775807 ∧ BoxL W g 34 L ∧ L[k * 5]? = some (.int .i64 x.op) ∧ L[k * 5 + 2]? = some (.int .i64 x.a) ∧ L[k * 5 + 3]? = some (.int .i64 x.b) := by
 obtain ⟨xs, hr, hc⟩ := h.row
 have hk := (List.getElem?_eq_some_iff.1 hx).1
 rcases hr.2 with ⟨_, h0⟩ | ⟨g, cap, cur, he, hb, hg, hle, hm, hsz, htk⟩
 ·omega
 ·obtain ⟨cs, h1, ⟨sl, hcs, _⟩, h3⟩ := hc.at hx
  subst hcs
  have ht : ∀ j u, xs[j]? = some u → cur.toList[j]? = some u := fun j u hj => by
   rw [← htk, List.getElem?_take] at hj
   split at hj
   ·exact hj
   ·cases hj
  exact ⟨g, cap, cur.toList, he, hle, by unfold maxLen at hm; omega, hg, ht _ _ (by simpa using h3 0 _ rfl), ht _ _ (h3 2 _ rfl), ht _ _ (h3 3 _ rfl)⟩
theorem ZkS.patched {W : World} {base mb g cap : Nat} {K : KV} {X : Nat → Prop} {s s' : MSt} (h : ZkS W base mb K X s) (hK : K.c = .slice (some ⟨g, 0, none⟩) s.code.length cap) {k j : Nat} (n : Int) (f : Ins → Ins) (hk : k < s.code.length) (hj : j < 5) (hs : s' = { s with code := s.code.modify k f })
  (hf : ∀ (R : Ins → List Value → Prop) x sl, (R = InsM (W.setCell ⟨g, k * 5 + j, none⟩ (.int .i64 n)) (fun b => SZ mb K b ∨ X b)) → R x [.int .i64 x.op, .int .i64 x.d, .int .i64 x.a, .int .i64 x.b, sl] → R (f x) ([.int .i64 x.op, .int .i64 x.d, .int .i64 x.a, .int .i64 x.b, sl].set j (.int .i64 n))) :
  ZkS (W.setCell ⟨g, k * 5 + j, none⟩ (.int .i64 n)) base mb K X s' := by
 subst hs
 obtain ⟨xs, hr, hc⟩ := h.row
 have hgo : K.c.ownBlock = some g := by rw [hK]; rfl
 have hne : g ≠ mb := row_box_ne hr hgo h.box (by decide)
 have hT : Turned (fun b => b = g) W (W.setCell ⟨g, k * 5 + j, none⟩ (.int .i64 n)) := Turned.set _ _ _ rfl
 refine ⟨h.box.other _ _ hne.symm, ⟨xs.set (k * 5 + j) (.int .i64 n), ?_, ?_⟩, row_turn h.vars hT (fun b hb e => row_row_ne hr hgo h.vars hb (by decide) e.symm), row_turn h.regs hT (fun b hb e => row_row_ne hr hgo h.regs hb (by decide) e.symm), h.ne, h.i64⟩
 ·have hl : (s.code.modify k f).length = s.code.length := by simp
  rw [hl]
  refine ⟨by simpa using hr.1, .inr ?_⟩
  rcases hr.2 with ⟨_, h0⟩ | ⟨g', cap', cur, he, hb, hg, hle, hm, hsz, htk⟩
  ·omega
  ·rw [hK] at he
   simp only [Value.slice.injEq, Option.some.injEq, Addr.mk.injEq, and_true, true_and] at he
   obtain ⟨rfl, rfl⟩ := he
   have hb2 : BoxL W g 34 cur.toList := hg
   refine ⟨g, cap, (cur.toList.set (k * 5 + j) (.int .i64 n)).toArray, hK, hb, hb2.set _ _, hle, hm, by simpa using hsz, ?_⟩
   rw [show (cur.toList.set (k * 5 + j) (Value.int .i64 n)).toArray.toList = cur.toList.set (k * 5 + j) (Value.int .i64 n) from rfl, List.take_set, htk]
 ·refine CellsG.turn (f := f) hj (fun x cs hx hl => ?_) (hc.mono fun x _ cs hx => hx.kept hT (fun b _ hb => .inl (.inr (.inl (by rw [hb]; exact hgo)))) (fun _ _ h => h)) hk
  obtain ⟨sl, rfl, h1⟩ := hx
  exact hf _ x sl rfl ⟨sl, rfl, h1⟩
theorem zpatch {W W' : World} {B base mb g cap : Nat} {K : KV} {X : Nat → Prop} {s s' : MSt} (h : ZkIn W B base mb K X s) (hK : K.c = .slice (some ⟨g, 0, none⟩) s.code.length cap) {k j : Nat} {n : Int} (he : W.setCell ⟨g, k * 5 + j, none⟩ (.int .i64 n) = W') (hS : ZkS W' base mb K X s') : ZkGo B base mb K K X s' W W' := by
 subst he
 have hT : Turned (SZ mb K) W (W.setCell ⟨g, k * 5 + j, none⟩ (.int .i64 n)) := Turned.set _ _ _ (.inr (.inl (by rw [hK]; rfl)))
 exact ⟨⟨hS, h.b1, h.b2, Nat.le_trans h.b4 hT.size, fun b hb => Nat.lt_of_lt_of_le (h.bx b hb) hT.size⟩, hT, fun _ _ h => h, hT.below h.low h.size⟩
theorem zjif {W W' : World} {B base mb g cap : Nat} {K : KV} {X : Nat → Prop} {s : MSt} (h : ZkIn W B base mb K X s) (hK : K.c = .slice (some ⟨g, 0, none⟩) s.code.length cap) {k : Nat} (hk : k < s.code.length) (hlen : s.code.length ≤ 1000000) (he : W.setCell ⟨g, k * 5 + 3, none⟩ (.int .i64 (s.code.length : Int)) = W') : ZkGo B base mb K K X (s.setB k s.len) W W' := by
 refine zpatch h hK he ?_
 subst he
 exact h.st.patched hK (k := k) (j := 3) (s.code.length : Int) (fun x => { x with b := (s.code.length : Int) }) hk (by omega) rfl (fun R x sl hR hx => by
  subst hR
  obtain ⟨sl', he, a1, a2, a3, a4, a5⟩ := hx
  exact ⟨sl, rfl, a1, a2, a3, ⟨by show _ ≤ (s.code.length : Int); omega, by show (s.code.length : Int) ≤ _; omega⟩, by simp only [List.cons.injEq, and_true, true_and] at he; subst he; exact a5⟩)
theorem zjmp {W W' : World} {B base mb g cap : Nat} {K : KV} {X : Nat → Prop} {s : MSt} (h : ZkIn W B base mb K X s) (hK : K.c = .slice (some ⟨g, 0, none⟩) s.code.length cap) {k : Nat} (hk : k < s.code.length) (hlen : s.code.length ≤ 1000000) (he : W.setCell ⟨g, k * 5 + 2, none⟩ (.int .i64 (s.code.length : Int)) = W') : ZkGo B base mb K K X (s.setA k s.len) W W' := by
 refine zpatch h hK he ?_
 subst he
 exact h.st.patched hK (k := k) (j := 2) (s.code.length : Int) (fun x => { x with a := (s.code.length : Int) }) hk (by omega) rfl (fun R x sl hR hx => by
  subst hR
  obtain ⟨sl', he, a1, a2, a3, a4, a5⟩ := hx
  exact ⟨sl, rfl, a1, a2, ⟨by show _ ≤ (s.code.length : Int); omega, by show (s.code.length : Int) ≤ _; omega⟩, a4, by simp only [List.cons.injEq, and_true, true_and] at he; subst he; exact a5⟩)
theorem zchoice_any (e : Bool) (op n : Int) (v : List Int) (a b c : Trm) (ha : ZHadC a) (hb : ZIntoC e b) (hc : ZIntoC e c) (c0 c1 c2 c3 : Value) (B base mb : Nat) (K : KV) (X : Nat → Prop) (s : MSt) (d : Int) (nc nk : Int) (fr : Bool) (sc : Int → Bool) (W : World)
  (hv : TrmR W B (.mk op n v [a, b, c]) [c0, c1, c2, c3]) (hm : ZkIn W B base mb K X s) (wa : Trm.wf nc nk fr a sc = true) (wb : Trm.wf nc nk fr b sc = true) (wc : Trm.wf nc nk fr c sc = true) (hroom : Room s (2 + 6 * Trm.allL [a, b, c])) (hd : 0 ≤ d ∧ d ≤ 1900000) :
  Calls Tryz.prog 117 #[.pointer (some ⟨mb, 0, none⟩), .agg #[c0, c1, c2, c3], .int .i64 d, .bool e] W fun r w' => r = .returned (.tuple #[]) ∧ ∃ K', ZkGo B base mb K K' X (Mk.choice Mk.lkF [a, b, c] d e s) W w' := by
 obtain ⟨W1, hW1⟩ : ∃ W1, W.alloc (.cells #[c0, c1, c2, c3] 41) = W1 := ⟨_, rfl⟩
 have HB1 := Lib.hid (show Below W.heap.size W W1 from by rw [← hW1]; exact Below.one W _)
 have HBX := Lib.hid (show BoxL W1 W.heap.size 41 [c0, c1, c2, c3] from by rw [← hW1]; exact BoxL.new rfl _ _)
 have HM := Lib.hid (hm.keep HB1.out)
 have hsz := hm.size
 have HW := Lib.hid hW1
 obtain ⟨vs, ts, he, _, _, hvs, hts⟩ := trmR_iff.1 hv
 simp only [List.cons.injEq, and_true] at he
 obtain ⟨rfl, rfl, rfl, rfl⟩ := he
 obtain ⟨ov, lv, cvv, rfl⟩ := hvs.form
 obtain ⟨ot, lt, ct, rfl⟩ := hts.form
 have hT : TrmS W1 B [a, b, c] (.slice ot lt ct) := TrmS.kept hts (HB1.out.mono hsz)
 obtain ⟨hlen, _, _⟩ := SlC.lens hT
 obtain rfl : lt = 3 := hlen
 obtain ⟨tb, off, a0, a1, a2, a3, rfl, hpa⟩ := TrmS.part hT (i := 0) rfl
 obtain ⟨tb', off', b0, b1, b2, b3, ho, hpb⟩ := TrmS.part hT (i := 1) rfl
 simp only [Option.some.injEq, Addr.mk.injEq, and_true] at ho
 obtain ⟨rfl, rfl⟩ := ho
 obtain ⟨tb', off', d0, d1, d2, d3, ho, hpc⟩ := TrmS.part hT (i := 2) rfl
 simp only [Option.some.injEq, Addr.mk.injEq, and_true] at ho
 obtain ⟨rfl, rfl⟩ := ho
 have HPA := Lib.hid hpa
 have HPB := Lib.hid hpb
 have HPC := Lib.hid hpc
 have hal : Trm.allL [a, b, c] = a.all + b.all + c.all := by simp [Trm.allL]; omega
 have pa := a.all_pos
 have pb := b.all_pos
 have pc := c.all_pos
 rw [hal] at hroom
 have HA := Lib.hid (ha a0 a1 a2 a3 B base mb K X s nc nk fr sc W1 hpa.r HM.out wa (hroom.mono (by omega)))
 obtain ⟨p, hp⟩ : ∃ p, Mk.had Mk.lkF a s = p := ⟨_, rfl⟩
 have hrA := Room.had (k := 2 + (6 * b.all - 2) + (6 * c.all - 2)) Mk.lkF_ok a (Room.into Mk.lkF_ok a) (s := s) (hroom.mono (by omega))
 rw [show Mk.hadW Mk.lkF a.op a.n (Mk.into Mk.lkF a) s = p from hp] at hrA
 rw [hp] at HA
 have hgoal : Mk.choice Mk.lkF [a, b, c] d e s = Mk.thens (Mk.into Mk.lkF b) (Mk.into Mk.lkF c) p.1 d e p.2 := by rw [← hp]; rfl
 rw [hgoal]
 have HRA := Lib.hid hrA
 have HB := Lib.hid hb
 have HC := Lib.hid hc
 have WB := Lib.hid wb
 have WC := Lib.hid wc
 have e3 := HBX.out.cell 3 rfl
 have el := HBX.out.lt
 have q0 := hpa.e0
 have q1 := hpa.e1
 have q2 := hpa.e2
 have q3 := hpa.e3
 have ql := hpa.size
 simp only [Nat.zero_mul, Nat.add_zero] at q0 q1 q2 q3
 clear hv hm hW1 hts hvs hT hpa hpb hpc ha hb hc wa wb wc hroom hrA hgoal hp
 go_enter Tryz.func117, Tryz.ntmps117
 go_upto_region 1 with fail
 rw [HW.out]
 go_wp2_with fail
 refine HA.out.mono ?_
 rintro r w2 ⟨rfl, K2, hg2⟩
 have HG2 := Lib.hid hg2
 have HL := Lib.hid (zput_any 16 0 p.1 0 [] none 0 0 w2 hg2.inn (by have := HRA.out.1.1; omega) (by constructor <;> omega) (by constructor <;> omega) ⟨by have := HRA.out.2.1; omega, by have := HRA.out.2.2; omega⟩ (by constructor <;> omega) (IntsM.nil _ _))
 obtain ⟨oc2, cc2, hk2⟩ : ∃ oc cc, K2.c = .slice oc p.2.code.length cc := by obtain ⟨xs, hr, _⟩ := hg2.inn.st.row; exact own_form hr
 have bx2 := hg2.inn.st.box
 rw [hk2] at bx2
 have k0 := bx2.cell 0 rfl
 have kl := bx2.lt
 clear hg2 e3 el q0 q1 q2 q3 ql bx2 hk2
 go_upto_region 3 with fail
 clear k0 kl
 go_wp2_with fail
 refine HL.out.mono ?_
 rintro r w3 ⟨rfl, K3, hg3⟩
 have HG3 := Lib.hid hg3
 have HI3 := Lib.hid (HG2.out.next hg3)
 have HBX3 := Lib.hid (HI3.out.box HM.out HBX.out (by decide) (by decide) (by decide))
 have HR3 := Lib.hid (Room.put (k := 1 + (6 * b.all - 2) + (6 * c.all - 2)) (HRA.out.1.mono (by omega)) ⟨16, 0, p.1, 0, []⟩)
 obtain ⟨s1, hs1⟩ : ∃ s1, p.2.put ⟨16, 0, p.1, 0, []⟩ = s1 := ⟨_, rfl⟩
 have HX1 := Lib.hid (show s1.code[p.2.code.length]? = some ⟨16, 0, p.1, 0, []⟩ from by rw [← hs1]; simp [MSt.put])
 have HS1 := Lib.hid hs1
 have HN1 := Lib.hid (HB.out b0 b1 b2 b3 B base mb _ X _ d nc nk fr sc w3 (HPB.out.kept HI3.out.low).r HI3.out.inn WB.out (HR3.out.mono (by omega)) hd)
 rw [hs1] at HG3 HI3 HR3 HN1
 have q0 := (HPB.out.kept HI3.out.low).e0
 have q1 := (HPB.out.kept HI3.out.low).e1
 have q2 := (HPB.out.kept HI3.out.low).e2
 have q3 := (HPB.out.kept HI3.out.low).e3
 have ql := (HPB.out.kept HI3.out.low).size
 have e3 := HBX3.out.cell 3 rfl
 have el := HBX3.out.lt
 clear hg3 hs1 HA HL
 go_wp2_with fail
 refine HN1.out.mono ?_
 rintro r w4 ⟨rfl, K4, hg4⟩
 have HBX4 := Lib.hid (hg4.box HI3.out.inn HBX3.out (by decide) (by decide) (by decide))
 have HI4 := Lib.hid (HI3.out.next hg4)
 have HR4 := Lib.hid (Room.into Mk.lkF_ok b d e s1 (1 + (6 * c.all - 2)) (HR3.out.mono (by omega)))
 have HX4 := Lib.hid ((Mk.Ext.into (lk := Mk.lkF) b d e s1).at HX1.out)
 have HE1 := Lib.hid (show p.2.code.length < s1.code.length from (List.getElem?_eq_some_iff.1 HX1.out).1)
 have HE2 := Lib.hid ((Mk.Ext.into (lk := Mk.lkF) b d e s1).len)
 obtain ⟨s2, hs2⟩ : ∃ s2, Mk.into Mk.lkF b d e s1 = s2 := ⟨_, rfl⟩
 have HS2 := Lib.hid hs2
 rw [hs2] at HI4 HR4 HX4 HE2
 obtain ⟨g4, cap4, L4, hk4, hle4, hcp4, hb4, h40, h42, h43⟩ := HI4.out.inn.st.opened HX4.out
 have HK4 := Lib.hid hk4
 have bx4 := HI4.out.inn.st.box
 rw [hk4] at bx4
 clear hg4 q0 q1 q2 q3 ql e3 el HN1 hs2 hk4
 cases e with
 | true =>
  have k0 := bx4.cell 0 rfl
  have kl := bx4.lt
  have hj1 : p.2.code.length < s2.code.length := Nat.lt_of_lt_of_le HE1.out HE2.out
  have hn2 : s2.code.length ≤ 900000 := by have := HR4.out.1; omega
  have l3 := hb4.cell (p.2.code.length * 5 + 3) h43
  have lz := hb4.free (p.2.code.length * 5 + 3)
  have ll := hb4.lt
  have HG5 := Lib.hid (zjif HI4.out.inn HK4.out hj1 (by omega) rfl)
  go_upto_region 8 with fail
  go_region
  all_goals
   obtain ⟨w5, hw5⟩ : ∃ w5, (w4.setCell ⟨g4, p.2.code.length * 5 + 3, none⟩ (.int .i64 (s2.code.length : Int))).drew = w5 := ⟨_, rfl⟩
   have HI5 := Lib.hid (show ZkGo B base mb K K4 X (s2.setB p.2.code.length s2.len) W1 w5 from hw5 ▸ ((HI4.out.next HG5.out).after (Below.drew (Below.refl _ _))))
   have HBX5 := Lib.hid (show BoxL w5 W.heap.size 41 _ from hw5 ▸ ((HG5.out.after (Below.drew (Below.refl _ _))).box HI4.out.inn HBX4.out (by decide) (by decide) (by decide)))
   rw [hw5]
   clear hw5 k0 kl l3 lz ll HG5 bx4
   have HN2 := Lib.hid (HC.out d0 d1 d2 d3 B base mb _ X _ d nc nk fr sc w5 (HPC.out.kept HI5.out.low).r HI5.out.inn WC.out ((Room.setB HR4.out _ _).mono (by omega)) hd)
   have q0 := (HPC.out.kept HI5.out.low).e0
   have q1 := (HPC.out.kept HI5.out.low).e1
   have q2 := (HPC.out.kept HI5.out.low).e2
   have q3 := (HPC.out.kept HI5.out.low).e3
   have ql := (HPC.out.kept HI5.out.low).size
   have e3 := HBX5.out.cell 3 rfl
   have el := HBX5.out.lt
   go_wp2_with fail
   refine HN2.out.mono ?_
   rintro r w6 ⟨rfl, K6, hg6⟩
   have HI6 := Lib.hid ((HI5.out.next hg6).before HB1.out hsz)
   clear hg6 q0 q1 q2 q3 ql e3 el HN2
   go_wp2_with fail
   first | go_end0 | (refine bodyPost_ret (results_none rfl _ _ _) rfl ?_)
   refine ⟨rfl, K6, ?_⟩
   have := HI6.out
   rw [← HS2.out, ← HS1.out] at this
   exact this
 | false =>
  have HL := Lib.hid (zput_any 15 0 0 0 [] none 0 0 w4 HI4.out.inn (by have := HR4.out.1; omega) (by constructor <;> omega) (by constructor <;> omega) (by constructor <;> omega) (by constructor <;> omega) (IntsM.nil _ _))
  have k0 := bx4.cell 0 rfl
  have kl := bx4.lt
  go_upto_region 7 with fail
  clear k0 kl hb4 h40 h42 h43 HK4 bx4
  go_wp2_with fail
  refine HL.out.mono ?_
  rintro r w5 ⟨rfl, K5, hg5⟩
  have HBX5 := Lib.hid (hg5.box HI4.out.inn HBX4.out (by decide) (by decide) (by decide))
  have HI5 := Lib.hid (HI4.out.next hg5)
  have HR5 := Lib.hid (Room.put (k := 6 * c.all - 2) (HR4.out.mono (by omega)) ⟨15, 0, 0, 0, []⟩)
  have hX5 : (s2.put ⟨15, 0, 0, 0, []⟩).code[p.2.code.length]? = some ⟨16, 0, p.1, 0, []⟩ := by simp only [MSt.put]; rw [List.getElem?_append_left (List.getElem?_eq_some_iff.1 HX4.out).1]; exact HX4.out
  obtain ⟨s3, hs3⟩ : ∃ s3, s2.put ⟨15, 0, 0, 0, []⟩ = s3 := ⟨_, rfl⟩
  have HS3 := Lib.hid hs3
  have HL3 := Lib.hid (show s3.code.length = s2.code.length + 1 from by rw [← hs3]; simp [MSt.put])
  rw [hs3] at HI5 HR5 hX5
  obtain ⟨g5, cap5, L5, hk5, hle5, hcp5, hb5, h50, h52, h53⟩ := HI5.out.inn.st.opened hX5
  have HK5 := Lib.hid hk5
  have bx5 := HI5.out.inn.st.box
  rw [hk5] at bx5
  clear hg5 HL hs3 hX5 hk5
  have k0 := bx5.cell 0 rfl
  have kl := bx5.lt
  have hj1 : p.2.code.length < s3.code.length := by have := HL3.out; have := HE1.out; have := HE2.out; omega
  have hn3 : s3.code.length ≤ 900000 := by have := HR5.out.1; omega
  have l3 := hb5.cell (p.2.code.length * 5 + 3) h53
  have lz := hb5.free (p.2.code.length * 5 + 3)
  have ll := hb5.lt
  have HG6 := Lib.hid (zjif HI5.out.inn HK5.out hj1 (by omega) rfl)
  go_upto_region 8 with fail
  go_region
  all_goals
   obtain ⟨w6, hw6⟩ : ∃ w6, (w5.setCell ⟨g5, p.2.code.length * 5 + 3, none⟩ (.int .i64 (s3.code.length : Int))).drew = w6 := ⟨_, rfl⟩
   have HI6 := Lib.hid (show ZkGo B base mb K K5 X (s3.setB p.2.code.length s3.len) W1 w6 from hw6 ▸ ((HI5.out.next HG6.out).after (Below.drew (Below.refl _ _))))
   have HBX6 := Lib.hid (show BoxL w6 W.heap.size 41 _ from hw6 ▸ ((HG6.out.after (Below.drew (Below.refl _ _))).box HI5.out.inn HBX5.out (by decide) (by decide) (by decide)))
   rw [hw6]
   clear hw6 k0 kl l3 lz ll HG6 bx5 hb5 h50 h52 h53 hle5 hcp5
   have HR6 := Lib.hid (Room.setB HR5.out p.2.code.length s3.len)
   obtain ⟨s4, hs4⟩ : ∃ s4, s3.setB p.2.code.length s3.len = s4 := ⟨_, rfl⟩
   have HS4 := Lib.hid hs4
   rw [hs4] at HI6 HR6
   have HX6 := Lib.hid (show s4.code[s2.code.length]? = some ⟨15, 0, 0, 0, []⟩ from by
    rw [← hs4, ← HS3.out]
    show ((s2.code ++ [_]).modify p.2.code.length _)[s2.code.length]? = _
    have hne : p.2.code.length ≠ s2.code.length := by have := HE1.out; have := HE2.out; omega
    rw [List.getElem?_modify]
    simp [hne])
   have HN2 := Lib.hid (HC.out d0 d1 d2 d3 B base mb _ X _ d nc nk fr sc w6 (HPC.out.kept HI6.out.low).r HI6.out.inn WC.out (HR6.out.mono (by omega)) hd)
   have q0 := (HPC.out.kept HI6.out.low).e0
   have q1 := (HPC.out.kept HI6.out.low).e1
   have q2 := (HPC.out.kept HI6.out.low).e2
   have q3 := (HPC.out.kept HI6.out.low).e3
   have ql := (HPC.out.kept HI6.out.low).size
   have e3 := HBX6.out.cell 3 rfl
   have el := HBX6.out.lt
   clear hs4
   go_wp2_with fail
   refine HN2.out.mono ?_
   rintro r w7 ⟨rfl, K7, hg7⟩
   have HI7 := Lib.hid (HI6.out.next hg7)
   have HR7 := Lib.hid (Room.into Mk.lkF_ok c d false s4 0 (HR6.out.mono (by omega)))
   have HX7 := Lib.hid ((Mk.Ext.into (lk := Mk.lkF) c d false s4).at HX6.out)
   obtain ⟨s5, hs5⟩ : ∃ s5, Mk.into Mk.lkF c d false s4 = s5 := ⟨_, rfl⟩
   have HS5 := Lib.hid hs5
   rw [hs5] at HI7 HR7 HX7
   obtain ⟨g7, cap7, L7, hk7, hle7, hcp7, hb7, h70, h72, h73⟩ := HI7.out.inn.st.opened HX7.out
   have HK7 := Lib.hid hk7
   have bx7 := HI7.out.inn.st.box
   rw [hk7] at bx7
   have hj2 : s2.code.length < s5.code.length := (List.getElem?_eq_some_iff.1 HX7.out).1
   have hn5 : s5.code.length ≤ 900000 := by have := HR7.out.1; omega
   clear hg7 q0 q1 q2 q3 ql e3 el HN2 hs5 hk7
   have k0 := bx7.cell 0 rfl
   have kl := bx7.lt
   have l2 := hb7.cell (s2.code.length * 5 + 2) h72
   have lz := hb7.free (s2.code.length * 5 + 2)
   have ll := hb7.lt
   have HG8 := Lib.hid (zjmp HI7.out.inn HK7.out hj2 (by omega) rfl)
   go_upto_region 11 with fail
   go_region
   all_goals
    obtain ⟨w8, hw8⟩ : ∃ w8, (w7.setCell ⟨g7, s2.code.length * 5 + 2, none⟩ (.int .i64 (s5.code.length : Int))).drew = w8 := ⟨_, rfl⟩
    have HI8 := Lib.hid (show ZkGo B base mb K K7 X (s5.setA s2.code.length s5.len) W1 w8 from hw8 ▸ ((HI7.out.next HG8.out).after (Below.drew (Below.refl _ _))))
    have HI9 := Lib.hid (HI8.out.before HB1.out hsz)
    rw [hw8]
    clear hw8 k0 kl l2 lz ll HG8 bx7 hb7 h70 h72 h73 hle7 hcp7
    go_wp2_with fail
    first | go_end0 | (refine bodyPost_ret (results_none rfl _ _ _) rfl ?_)
    refine ⟨rfl, K7, ?_⟩
    have := HI9.out
    rw [← HS5.out, ← HS4.out, ← HS3.out, ← HS2.out, ← HS1.out] at this
    exact this
end
section
open Go Go.RowKit Mk
def MuI (ps : List Proc) (cons : List Dat) (nC H b4 : Nat) (cv crow : Value) (xc : List Value) (w : World) (j : Nat) (wr : World) : Prop :=
 ∃ v xs, Below H w wr ∧ BoxL wr (H + 1) 25 [.slice none 0 0, .slice none 0 0] ∧ BoxL wr b4 25 [cv, v] ∧ (∃ o l c, v = .slice o l c) ∧ wr.ownsRow (H + 2) 31 5 v j xs ∧
  CellsG 5 (ProcN wr (fun b => b = b4 ∨ b = H + 1 ∨ v.ownBlock = some b)) (ps.take j) xs ∧ (∃ U B, Sub (fun b => b = b4 ∨ b = H + 1 ∨ v.ownBlock = some b) U wr ∧ B ≤ wr.heap.size ∧ RepS U B cons cv) ∧ wr.ownsRow (H + 2) 50 6 crow nC xc
theorem muI_step {ps : List Proc} {cons : List Dat} {nC H b4 j g c : Nat} {cv crow v sl : Value} {xc : List Value} {w wr W1 W6 w7 : World} {p : Proc} {xs : List Value} (hb : Below H w wr) (hbr : BoxL wr (H + 1) 25 [.slice none 0 0, .slice none 0 0]) (hbx : BoxL wr b4 25 [cv, v])
  (hown : wr.ownsRow (H + 2) 31 5 v j xs) (hcs : CellsG 5 (ProcN wr (fun b => b = b4 ∨ b = H + 1 ∨ v.ownBlock = some b)) (ps.take j) xs) (hcons : ∃ U B, Sub (fun b => b = b4 ∨ b = H + 1 ∨ v.ownBlock = some b) U wr ∧ B ≤ wr.heap.size ∧ RepS U B cons cv) (hrow : wr.ownsRow (H + 2) 50 6 crow nC xc) (hH4 : H + 1 < b4)
  (hpj : ps[j]? = some p) (h1 : Below wr.heap.size wr W1) (h6 : Below W1.heap.size W1 W6) (hgr : W6.grownBy w7 v.ownBlock) (hsl : ∃ U B, Sub (fun b => b < wr.heap.size) U W1 ∧ B ≤ W1.heap.size ∧ SlC U B 5 (InsR U B) p.code sl)
  (hargs : -9223372036854775808 ≤ p.args ∧ p.args ≤ 9223372036854775807) (hregs : -9223372036854775808 ≤ p.regs ∧ p.regs ≤ 9223372036854775807) (hal : p.alive = [])
  (hown7 : w7.ownsRow (H + 2) 31 5 (.slice (some ⟨g, 0, none⟩) (j + 1) c) (j + 1) (xs ++ [.int .i64 p.args, .bool p.rest, .int .i64 p.regs, sl, .slice none 0 0])) (hgo : v.ownBlock = some g ∨ W6.heap.size ≤ g) :
  BoxL w7 b4 25 [cv, v] ∧ MuI ps cons nC H b4 cv crow xc w (j + 1) (w7.setCell ⟨b4, 1, none⟩ (.slice (some ⟨g, 0, none⟩) (j + 1) c)) := by
 have h16 : Below wr.heap.size wr W6 := Below.next h1 h6
 have hlt := hown.lt
 have hz1 := h1.size
 have hz6 := h6.size
 have hz7 := hgr.size
 have hHr := hbr.lt
 have hb4l := hbx.lt
 have boxes : ∀ {b : Nat} {cs : List Value}, BoxL wr b 25 cs → BoxL w7 b 25 cs := fun {b cs} h => by
  refine (hgr.block b (by have := h.lt; omega) (fun e => ?_)).trans (h.keep h16)
  obtain ⟨cs', f, hc⟩ := own_row hown b e.symm
  rw [show wr.heap[b]? = _ from h] at hc
  simp at hc
 have hsub : ∀ U, Sub (fun b => b = b4 ∨ b = H + 1 ∨ v.ownBlock = some b) U wr → Sub (fun b => b = b4 ∨ b = H + 1 ∨ (Value.slice (some ⟨g, 0, none⟩) (j + 1) c).ownBlock = some b) U (w7.setCell ⟨b4, 1, none⟩ (.slice (some ⟨g, 0, none⟩) (j + 1) c)) := fun U hU => by
  refine ((hU.below h16).step hz7 (fun b hl hn => hgr.block b hl (fun e => hn (.inr (.inr e.symm)))) (fun b hl hS => ?_)).set ⟨b4, 1, none⟩ _ (.inl rfl)
  rcases hS with h | h | h
  ·exact .inl h
  ·exact .inr (.inl h)
  ·simp only [Value.ownBlock, Option.some.injEq] at h
   subst h
   rcases hgo with h | h
   ·exact .inr (.inr h)
   ·omega
 refine ⟨boxes hbx, .slice (some ⟨g, 0, none⟩) (j + 1) c, xs ++ [.int .i64 p.args, .bool p.rest, .int .i64 p.regs, sl, .slice none 0 0], ?_, ?_, (boxes hbx).set 1 _, ⟨_, _, _, rfl⟩, ?_, ?_, ?_, ?_⟩
 ·refine Below.setCell (p := ⟨b4, 1, none⟩) ?_ (by dsimp only; omega) _
  refine (hb.trans (h16.mono (by omega))).grown hgr (by omega) (fun k e => ?_)
  have := (hlt k e).1
  omega
 ·exact (boxes hbr).other _ _ (by dsimp only; omega)
 ·refine ownsRow_set hown7 _ _ (fun r hr e => ?_)
  obtain ⟨cs', f, hc⟩ := own_row hown7 r hr
  have e : r = b4 := e
  rw [e, show w7.heap[b4]? = _ from boxes hbx] at hc
  simp at hc
 ·rw [List.take_add_one, hpj]
  refine CellsG.snoc (size := 5) rfl ?_ (hcs.mono fun x _ cs h => h.to hsub (by rw [World.size_setCell]; omega))
  obtain ⟨U, B, g1, g2, g3⟩ := hsl
  refine ⟨U, B, sl, ((g1.below h6).step (S' := fun b => b = b4 ∨ b = H + 1 ∨ (Value.slice (some ⟨g, 0, none⟩) (j + 1) c).ownBlock = some b) hz7 (fun b hl hn => hgr.block b hl (fun e => hn ?_)) (fun b hl hS => ?_)).set ⟨b4, 1, none⟩ _ (.inl rfl), by rw [World.size_setCell]; omega, rfl, hargs, hregs, g3, hal⟩
  ·have := (hlt b e.symm).2
   omega
  ·rcases hS with h | h | h
   ·show b < wr.heap.size
    omega
   ·show b < wr.heap.size
    omega
   ·simp only [Value.ownBlock, Option.some.injEq] at h
    subst h
    rcases hgo with h | h
    ·exact (hlt _ h).2
    ·omega
 ·obtain ⟨U, B, g1, g2, g3⟩ := hcons
  exact ⟨U, B, hsub U g1, by rw [World.size_setCell]; omega, g3⟩
 ·refine ownsRow_set (row_same hrow (fun r hr => ?_)) _ _ (fun r hr e => ?_)
  ·refine (hgr.block r (by have := ownBlock_lt hrow hr; omega) (fun e => ?_)).trans (h16.block r (ownBlock_lt hrow hr))
   obtain ⟨cs', f, hc⟩ := own_row hrow r hr
   obtain ⟨ds', f', hd⟩ := own_row hown r e.symm
   rw [hc] at hd
   simp at hd
  ·obtain ⟨cs', f, hc⟩ := own_row hrow r hr
   have e : r = b4 := e
   rw [e, show wr.heap[b4]? = _ from hbx] at hc
   simp at hc
theorem procR_low {W : World} {H H' : Nat} {p : Proc} {a r g o8 x : Value} (h : ProcR (Go.Proofs.YtigkhmppnnljiaaGreatDoor.gap W 0 H) W.heap.size p [a, r, g, o8, x]) (hH : H' ≤ H) : ∃ U B, Sub (fun b => b < H') U W ∧ B ≤ W.heap.size ∧ SlC U B 5 (InsR U B) p.code o8 := by
 obtain ⟨sl, al, he, _, _, hs, _⟩ := h
 simp only [List.cons.injEq, and_true] at he
 obtain ⟨rfl, rfl, rfl, rfl, rfl⟩ := he
 exact ⟨_, _, Sub.of_gap (fun b hb => Nat.lt_of_lt_of_le hb hH), Nat.le_refl _, hs⟩
theorem procR_args {W : World} {B : Nat} {p : Proc} {cs : List Value} (h : ProcR W B p cs) : (-9223372036854775808 ≤ p.args ∧ p.args ≤ 9223372036854775807) ∧ (-9223372036854775808 ≤ p.regs ∧ p.regs ≤ 9223372036854775807) := by
 obtain ⟨sl, al, _, h1, h2, _⟩ := h
 exact ⟨h1, h2⟩
theorem box_cells {W : World} {b : Nat} {t : TypeId} {cs : List Value} (h : BoxL W b t cs) : ∀ (j : Nat) (u : Value), cs[j]? = some u → W.cell? ((⟨b, 0, none⟩ : Addr).add j) = some u := fun j u hj => by
 rw [add_none rfl]
 simpa using h.cell j hj
def Mdl.cods (m : Mdl) : List Cod := m.codes ++ [⟨[], false, m.body⟩]
theorem cods_wf {m : Mdl} (h : m.okB = true) : ∀ c ∈ m.cods, ∃ nc nk fr sc, Trm.wf nc nk fr c.body sc = true := fun c hc => by
 rw [Mdl.okB] at h
 simp only [Bool.and_eq_true] at h
 obtain ⟨_, ⟨h1, h2⟩, h3⟩ := h
 rcases List.mem_append.1 hc with hc | hc
 ·exact ⟨_, _, _, _, (Mdl.codes_each h3 c hc).1⟩
 ·rw [List.mem_singleton.1 hc]
  exact ⟨_, _, _, _, h1⟩
theorem codes_short {nc nk : Int} : ∀ {l : List Cod} {B : Int → Bool}, Mdl.codesB nc nk l B = true → ∀ c ∈ l, c.v.length ≤ 1000001
 | [], _, _, c, h => by simp at h
 | x :: l, B, h, c, hc => by
  rw [Mdl.codesB] at h
  simp only [Bool.and_eq_true] at h
  obtain ⟨h1, h2, h3, h4⟩ := h
  rcases List.mem_cons.1 hc with rfl | hc
  ·have := Trm.newB_short h2
   rw [List.length_append] at this
   omega
  ·exact codes_short h4 c hc
theorem cods_short {m : Mdl} (h : m.okB = true) : ∀ c ∈ m.cods, c.v.length ≤ 1000001 := fun c hc => by
 rw [Mdl.okB] at h
 simp only [Bool.and_eq_true] at h
 rcases List.mem_append.1 hc with hc | hc
 ·exact codes_short h.2.2 c hc
 ·rw [List.mem_singleton.1 hc]
  simp
theorem unit_cods (m : Mdl) : (m.unit Mk.lkL).procs = m.cods.map (Mk.proc Mk.lkL) := by simp [Mdl.unit, Mdl.cods]
end
end Go.Proofs.YtigkhmppnnljiaaGreatDoor

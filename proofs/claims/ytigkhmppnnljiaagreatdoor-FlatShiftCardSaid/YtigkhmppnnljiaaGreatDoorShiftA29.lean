/-
  What the proofs lean on: MkC.
-/
import Derived.Test.YtigkhmppnnljiaaGreatDoorShiftA28
namespace Go.Proofs.YtigkhmppnnljiaaGreatDoor
open Go Go.RowKit Mk

/-- A part of a term, where it lies. -/
structure PartAt (W : World) (B b o : Nat) (x : Trm) (c0 c1 c2 c3 : Value) : Prop where
  lt : b < B
  e0 : W.cell? ⟨b, o, none⟩ = some c0
  e1 : W.cell? ⟨b, o + 1, none⟩ = some c1
  e2 : W.cell? ⟨b, o + 2, none⟩ = some c2
  e3 : W.cell? ⟨b, o + 3, none⟩ = some c3
  r : TrmR W B x [c0, c1, c2, c3]
theorem PartAt.kept {W W' : World} {B b o : Nat} {x : Trm} {c0 c1 c2 c3 : Value} (h : PartAt W B b o x c0 c1 c2 c3) (hb : Below B W W') : PartAt W' B b o x c0 c1 c2 c3 :=
  ⟨h.lt, (hb.cell (p := ⟨b, o, none⟩) h.lt).trans h.e0, (hb.cell (p := ⟨b, o + 1, none⟩) h.lt).trans h.e1, (hb.cell (p := ⟨b, o + 2, none⟩) h.lt).trans h.e2, (hb.cell (p := ⟨b, o + 3, none⟩) h.lt).trans h.e3, TrmR.kept hb _ _ h.r⟩
theorem PartAt.size {W : World} {B b o : Nat} {x : Trm} {c0 c1 c2 c3 : Value} (h : PartAt W B b o x c0 c1 c2 c3) : b < W.heap.size := cell_lt h.e0
theorem TrmS.part {W : World} {B : Nat} {l : List Trm} {o : Option Addr} {len cap : Nat} (h : TrmS W B l (.slice o len cap)) {i : Nat} {x : Trm} (hx : l[i]? = some x) : ∃ b off c0 c1 c2 c3, o = some ⟨b, off, none⟩ ∧ PartAt W B b (off + i * 4) x c0 c1 c2 c3 := by
  obtain ⟨b, off, cs, ho, hlt, hcl, hcell, hr⟩ := SlC.at h (Below.refl _ _) hx
  match cs, hcl with
  | [c0, c1, c2, c3], _ => exact ⟨b, off, c0, c1, c2, c3, ho, hlt, by simpa using hcell 0 _ rfl, hcell 1 _ rfl, hcell 2 _ rfl, hcell 3 _ rfl, hr⟩

theorem SlC.int {W : World} {B : Nat} {l : List Int} {o : Option Addr} {len cap : Nat} (h : SlC W B 1 IntR l (.slice o len cap)) {j : Nat} {x : Int} (hx : l[j]? = some x) : ∃ b off, o = some ⟨b, off, none⟩ ∧ b < B ∧ W.cell? ⟨b, off + j, none⟩ = some (.int .i64 x) ∧ I64 x := by
  obtain ⟨b, off, cs, ho, hlt, _, hcell, rfl, hi⟩ := h.at (Below.refl _ _) hx
  exact ⟨b, off, ho, hlt, by simpa using hcell 0 _ rfl, hi⟩

set_option maxRecDepth 100000 in
/-- What is called where nothing is to be told. -/
theorem choice1_to (w : World) : Calls Tryz.prog 145 #[] w fun e w' => e = .returned (.tuple #[]) ∧ Below w.heap.size w w' := by
  go_enter Tryz.func145, Tryz.ntmps145
  go_wp2_with fail
  go_end0
  exact ⟨rfl, Below.refl _ _⟩

set_option maxHeartbeats 8000000 in
set_option maxRecDepth 100000 in
theorem choice_any (e : Bool) (op n : Int) (v : List Int) (a b c : Trm) (ha : HadC a) (hb : IntoC e b) (hc : IntoC e c) (c0 c1 c2 c3 : Value) (B base mb vb : Nat) (cv : Value) (X : Nat → Prop) (s : MSt) (d : Int) (nc nk : Int) (fr : Bool) (sc : Int → Bool) (W : World)
    (hv : TrmR W B (.mk op n v [a, b, c]) [c0, c1, c2, c3]) (hm : MkIn W B base mb vb cv X s) (wa : Trm.wf nc nk fr a sc = true) (wb : Trm.wf nc nk fr b sc = true) (wc : Trm.wf nc nk fr c sc = true) (hroom : Room s (2 + 6 * Trm.allL [a, b, c])) (hd : 0 ≤ d ∧ d ≤ 1900000) :
    Calls Tryz.prog 108 #[.pointer (some ⟨mb, 0, none⟩), .agg #[c0, c1, c2, c3], .int .i64 d, .bool e] W fun r w' => r = .returned (.tuple #[]) ∧ ∃ cv', MkGo B base mb vb cv cv' X (Mk.choice Mk.lkL [a, b, c] d e s) W w' := by
  obtain ⟨W1, hW1⟩ : ∃ W1, W.alloc (.cells #[c0, c1, c2, c3] 41) = W1 := ⟨_, rfl⟩
  have HB1 := Lib.hid (show Below W.heap.size W W1 from by rw [← hW1]; exact Below.one W _)
  have HBX := Lib.hid (show BoxL W1 W.heap.size 41 [c0, c1, c2, c3] from by rw [← hW1]; exact BoxL.new rfl _ _)
  have HM := Lib.hid (hm.keep HB1.out)
  have HLT := Lib.hid hm.st.lt
  have hsz := hm.size
  have HW := Lib.hid hW1
  obtain ⟨vs, ts, he, _, _, hvs, hts⟩ := trmR_iff.1 hv
  simp only [List.cons.injEq, and_true] at he
  obtain ⟨rfl, rfl, rfl, rfl⟩ := he
  obtain ⟨ov, lv, cvv, rfl⟩ := hvs.form
  obtain ⟨ot, lt, ct, rfl⟩ := hts.form
  have hT : TrmS W1 B [a, b, c] (.slice ot lt ct) := TrmS.kept hts (HB1.out.mono hsz)
  obtain ⟨hlen, _, _⟩ := SlC.lens hT
  obtain rfl : lt = 3 := hlen
  obtain ⟨tb, off, a0, a1, a2, a3, rfl, hpa⟩ := TrmS.part hT (i := 0) rfl
  obtain ⟨tb', off', b0, b1, b2, b3, ho, hpb⟩ := TrmS.part hT (i := 1) rfl
  simp only [Option.some.injEq, Addr.mk.injEq, and_true] at ho
  obtain ⟨rfl, rfl⟩ := ho
  obtain ⟨tb', off', d0, d1, d2, d3, ho, hpc⟩ := TrmS.part hT (i := 2) rfl
  simp only [Option.some.injEq, Addr.mk.injEq, and_true] at ho
  obtain ⟨rfl, rfl⟩ := ho
  have HPA := Lib.hid hpa
  have HPB := Lib.hid hpb
  have HPC := Lib.hid hpc
  have hal : Trm.allL [a, b, c] = a.all + b.all + c.all := by simp [Trm.allL]; omega
  have pa := a.all_pos
  have pb := b.all_pos
  have pc := c.all_pos
  rw [hal] at hroom
  have HA := Lib.hid (ha a0 a1 a2 a3 B base mb vb cv X s nc nk fr sc W1 hpa.r HM.out wa (hroom.mono (by omega)))
  obtain ⟨p, hp⟩ : ∃ p, Mk.had Mk.lkL a s = p := ⟨_, rfl⟩
  have hrA := Room.had (k := 2 + (6 * b.all - 2) + (6 * c.all - 2)) Mk.lkL_ok a (Room.into Mk.lkL_ok a) (s := s) (hroom.mono (by omega))
  rw [show Mk.hadW Mk.lkL a.op a.n (Mk.into Mk.lkL a) s = p from hp] at hrA
  rw [hp] at HA
  have hgoal : Mk.choice Mk.lkL [a, b, c] d e s = Mk.thens (Mk.into Mk.lkL b) (Mk.into Mk.lkL c) p.1 d e p.2 := by rw [← hp]; rfl
  rw [hgoal]
  have HRA := Lib.hid hrA
  have HB := Lib.hid hb
  have HC := Lib.hid hc
  have WB := Lib.hid wb
  have WC := Lib.hid wc
  have e3 := HBX.out.cell 3 rfl
  have el := HBX.out.lt
  have q0 := hpa.e0
  have q1 := hpa.e1
  have q2 := hpa.e2
  have q3 := hpa.e3
  have ql := hpa.size
  simp only [Nat.zero_mul, Nat.add_zero] at q0 q1 q2 q3
  clear hv hm hW1 hts hvs hT hpa hpb hpc ha hb hc wa wb wc hroom hrA hgoal hp
  go_enter Tryz.func108, Tryz.ntmps108
  go_upto_region 1 with fail
  rw [HW.out]
  go_wp2_with fail
  refine HA.out.mono ?_
  rintro r w2 ⟨rfl, cv2, hg2⟩
  have HG2 := Lib.hid hg2
  have HL := Lib.hid (lay_mk 16 0 p.1 0 [] none 0 0 w2 hg2.inn (by have := HRA.out.1.1; omega) (by constructor <;> omega) (by constructor <;> omega) ⟨by have := HRA.out.2.1; omega, by have := HRA.out.2.2; omega⟩ (by constructor <;> omega) (IntsM.nil _ _))
  clear hg2 e3 el q0 q1 q2 q3 ql
  go_wp2_with fail
  refine HL.out.mono ?_
  rintro r w3 ⟨g3, cap3, k3, rfl, hpb3, hcb3, hk3, hg3⟩
  have HP3 := Lib.hid hpb3
  have HK3 := Lib.hid hcb3
  have HG3 := Lib.hid hg3
  have HI3 := Lib.hid (HG2.out.next hg3)
  have HBX3 := Lib.hid (HI3.out.box HM.out HBX.out (by decide) (by decide))
  have HR3 := Lib.hid (Room.put (k := 1 + (6 * b.all - 2) + (6 * c.all - 2)) (HRA.out.1.mono (by omega)) ⟨16, 0, p.1, 0, []⟩)
  obtain ⟨s1, hs1⟩ : ∃ s1, p.2.put ⟨16, 0, p.1, 0, []⟩ = s1 := ⟨_, rfl⟩
  have HX1 := Lib.hid (show s1.code[p.2.code.length]? = some ⟨16, 0, p.1, 0, []⟩ from by rw [← hs1]; simp [MSt.put])
  have HS1 := Lib.hid hs1
  have HN1 := Lib.hid (HB.out b0 b1 b2 b3 B base mb vb _ X _ d nc nk fr sc w3 (HPB.out.kept HI3.out.low).r HI3.out.inn WB.out (HR3.out.mono (by omega)) hd)
  rw [hs1] at HG3 HI3 HR3 HN1
  have q0 := (HPB.out.kept HI3.out.low).e0
  have q1 := (HPB.out.kept HI3.out.low).e1
  have q2 := (HPB.out.kept HI3.out.low).e2
  have q3 := (HPB.out.kept HI3.out.low).e3
  have ql := (HPB.out.kept HI3.out.low).size
  have e3 := HBX3.out.cell 3 rfl
  have el := HBX3.out.lt
  clear hpb3 hcb3 hg3 hs1 HA HL
  go_wp2_with fail
  refine HN1.out.mono ?_
  rintro r w4 ⟨rfl, cv4, hg4⟩
  have HP4 := Lib.hid (hg4.box HI3.out.inn HP3.out (by decide) (by decide))
  have HK4 := Lib.hid (hg4.box HI3.out.inn HK3.out (by decide) (by decide))
  have HBX4 := Lib.hid (hg4.box HI3.out.inn HBX3.out (by decide) (by decide))
  have HI4 := Lib.hid (HI3.out.next hg4)
  have HR4 := Lib.hid (Room.into Mk.lkL_ok b d e s1 (1 + (6 * c.all - 2)) (HR3.out.mono (by omega)))
  have HX4 := Lib.hid ((Mk.Ext.into (lk := Mk.lkL) b d e s1).at HX1.out)
  have HE1 := Lib.hid (show p.2.code.length < s1.code.length from (List.getElem?_eq_some_iff.1 HX1.out).1)
  have HE2 := Lib.hid ((Mk.Ext.into (lk := Mk.lkL) b d e s1).len)
  clear hg4 q0 q1 q2 q3 ql e3 el HN1
  cases e with
  | true =>
    have HTE := Lib.hid (tell_jif w4 HI4.out.inn w2.heap.size k3 p.2.code.length _ HX4.out (show (16 : Int) ≠ 15 by decide) (by have := HR4.out.1; omega) HP4.out HK4.out)
    go_wp2_with fail
    refine HTE.out.mono ?_
    rintro r w5 ⟨rfl, hg5⟩
    have HI5 := Lib.hid (HI4.out.next hg5)
    have HBX5 := Lib.hid (hg5.box HI4.out.inn HBX4.out (by decide) (by decide))
    have HN2 := Lib.hid (HC.out d0 d1 d2 d3 B base mb vb _ X _ d nc nk fr sc w5 (HPC.out.kept HI5.out.low).r HI5.out.inn WC.out ((Room.setB HR4.out _ _).mono (by omega)) hd)
    have q0 := (HPC.out.kept HI5.out.low).e0
    have q1 := (HPC.out.kept HI5.out.low).e1
    have q2 := (HPC.out.kept HI5.out.low).e2
    have q3 := (HPC.out.kept HI5.out.low).e3
    have ql := (HPC.out.kept HI5.out.low).size
    have e3 := HBX5.out.cell 3 rfl
    have el := HBX5.out.lt
    clear hg5 HTE
    go_wp2_with fail
    refine HN2.out.mono ?_
    rintro r w6 ⟨rfl, cv6, hg6⟩
    have HI6 := Lib.hid ((HI5.out.next hg6).before HB1.out hsz)
    clear hg6 q0 q1 q2 q3 ql e3 el HN2
    go_wp2_with fail
    refine (choice1_to w6).mono ?_
    rintro r w7 ⟨rfl, hb7⟩
    have HI7 := Lib.hid (HI6.out.after hb7)
    go_wp2_with fail
    go_end0
    refine ⟨rfl, cv6, ?_⟩
    have := HI7.out
    rw [← HS1.out] at this
    exact this
  | false =>
    have HL := Lib.hid (lay_mk 15 0 0 0 [] none 0 0 w4 HI4.out.inn (by have := HR4.out.1; omega) (by constructor <;> omega) (by constructor <;> omega) (by constructor <;> omega) (by constructor <;> omega) (IntsM.nil _ _))
    go_wp2_with fail
    refine HL.out.mono ?_
    rintro r w5 ⟨g5, cap5, k5, rfl, hpb5, hcb5, hk5, hg5⟩
    have HP5 := Lib.hid hpb5
    have HK5 := Lib.hid hcb5
    have HP5' := Lib.hid (hg5.box HI4.out.inn HP4.out (by decide) (by decide))
    have HK5' := Lib.hid (hg5.box HI4.out.inn HK4.out (by decide) (by decide))
    have HBX5 := Lib.hid (hg5.box HI4.out.inn HBX4.out (by decide) (by decide))
    have HI5 := Lib.hid (HI4.out.next hg5)
    have HR5 := Lib.hid (Room.put (k := 6 * c.all - 2) (HR4.out.mono (by omega)) ⟨15, 0, 0, 0, []⟩)
    obtain ⟨s2, hs2⟩ : ∃ s2, Mk.into Mk.lkL b d false s1 = s2 := ⟨_, rfl⟩
    have HS2 := Lib.hid hs2
    rw [hs2] at HI5 HR5 HX4 HE2 HK5
    have HX5 := Lib.hid (show (s2.put ⟨15, 0, 0, 0, []⟩).code[p.2.code.length]? = some ⟨16, 0, p.1, 0, []⟩ from by simp only [MSt.put]; rw [List.getElem?_append_left (List.getElem?_eq_some_iff.1 HX4.out).1]; exact HX4.out)
    have HTE := Lib.hid (tell_jif w5 HI5.out.inn w2.heap.size k3 p.2.code.length _ HX5.out (show (16 : Int) ≠ 15 by decide) (by have := HR5.out.1; omega) HP5'.out HK5'.out)
    clear hpb5 hcb5 hg5 hs2 HL
    go_wp2_with fail
    refine HTE.out.mono ?_
    rintro r w6 ⟨rfl, hg6⟩
    have HI6 := Lib.hid (HI5.out.next hg6)
    have HP6 := Lib.hid (hg6.box HI5.out.inn HP5.out (by decide) (by decide))
    have HK6 := Lib.hid (hg6.box HI5.out.inn HK5.out (by decide) (by decide))
    have HBX6 := Lib.hid (hg6.box HI5.out.inn HBX5.out (by decide) (by decide))
    have HR6 := Lib.hid (Room.setB HR5.out p.2.code.length (s2.put ⟨15, 0, 0, 0, []⟩).len)
    obtain ⟨s4, hs4⟩ : ∃ s4, (s2.put ⟨15, 0, 0, 0, []⟩).setB p.2.code.length (s2.put ⟨15, 0, 0, 0, []⟩).len = s4 := ⟨_, rfl⟩
    have HS4 := Lib.hid hs4
    rw [hs4] at HI6 HR6
    have HX6 := Lib.hid (show s4.code[s2.code.length]? = some ⟨15, 0, 0, 0, []⟩ from by
      rw [← hs4]
      show ((s2.code ++ [_]).modify p.2.code.length _)[s2.code.length]? = _
      have hne : p.2.code.length ≠ s2.code.length := by have := HE1.out; have := HE2.out; omega
      rw [List.getElem?_modify]
      simp [hne])
    have HN2 := Lib.hid (HC.out d0 d1 d2 d3 B base mb vb _ X _ d nc nk fr sc w6 (HPC.out.kept HI6.out.low).r HI6.out.inn WC.out (HR6.out.mono (by omega)) hd)
    have q0 := (HPC.out.kept HI6.out.low).e0
    have q1 := (HPC.out.kept HI6.out.low).e1
    have q2 := (HPC.out.kept HI6.out.low).e2
    have q3 := (HPC.out.kept HI6.out.low).e3
    have ql := (HPC.out.kept HI6.out.low).size
    have e3 := HBX6.out.cell 3 rfl
    have el := HBX6.out.lt
    clear hg6 HTE hs4
    go_wp2_with fail
    refine HN2.out.mono ?_
    rintro r w7 ⟨rfl, cv7, hg7⟩
    have HI7 := Lib.hid (HI6.out.next hg7)
    have HP7 := Lib.hid (hg7.box HI6.out.inn HP6.out (by decide) (by decide))
    have HK7 := Lib.hid (hg7.box HI6.out.inn HK6.out (by decide) (by decide))
    have HR7 := Lib.hid (Room.into Mk.lkL_ok c d false s4 0 (HR6.out.mono (by omega)))
    have HX7 := Lib.hid ((Mk.Ext.into (lk := Mk.lkL) c d false s4).at HX6.out)
    have HTE := Lib.hid (tell_jmp w7 HI7.out.inn w4.heap.size k5 s2.code.length _ HX7.out rfl (by have := HR7.out.1; omega) HP7.out HK7.out)
    clear hg7 q0 q1 q2 q3 ql e3 el HN2
    go_wp2_with fail
    refine HTE.out.mono ?_
    rintro r w8 ⟨rfl, hg8⟩
    have HI8 := Lib.hid ((HI7.out.next hg8).before HB1.out hsz)
    clear hg8
    go_wp2_with fail
    go_end0
    refine ⟨rfl, cv7, ?_⟩
    have := HI8.out
    rw [← HS4.out, ← HS2.out, ← HS1.out] at this
    exact this
end Go.Proofs.YtigkhmppnnljiaaGreatDoor

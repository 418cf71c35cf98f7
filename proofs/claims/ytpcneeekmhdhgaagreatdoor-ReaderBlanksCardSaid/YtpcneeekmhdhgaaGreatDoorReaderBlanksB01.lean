/-
  What the proofs lean on: RdAp, RdL5.
-/
import Derived.Test.YtpcneeekmhdhgaaGreatDoorRdzA09
import Derived.Test.YtpcneeekmhdhgaaGreatDoorRdzA12
set_option maxRecDepth 100000
set_option maxHeartbeats 16000000
namespace Go.Proofs.YtpcneeekmhdhgaaGreatDoor
section
open Go Go.RowKit
def OwnB (W : World) (base : Nat) (l : List Dat) (v : Value) : Prop := ∃ xs, W.ownsRow base 33 5 v l.length xs ∧ CellsD W base l xs
theorem repC_row {w : World} {B b : Nat} : ∀ (l : List Dat) (off : Nat), RepC w B l b off → ∃ xs, CellsD w B l xs ∧ ∀ j u, xs[j]? = some u → w.cell? ⟨b, off + j, none⟩ = some u
 | [], _, _ => ⟨[], rfl, fun j u h => by simp at h⟩
 | x :: l, off, h => by
  rw [RepC] at h
  obtain ⟨⟨c0, c1, c2, c3, c4, h0, h1, h2, h3, h4, h5⟩, h6⟩ := h
  obtain ⟨xs, k1, k2⟩ := repC_row l (off + 5) h6
  refine ⟨c0 :: c1 :: c2 :: c3 :: c4 :: xs, ⟨c0, c1, c2, c3, c4, xs, rfl, h5, k1⟩, fun j u hj => ?_⟩
  match j, hj with
  | 0, hj => simp at hj; rw [← hj]; exact h0
  | 1, hj => simp at hj; rw [← hj]; exact h1
  | 2, hj => simp at hj; rw [← hj]; exact h2
  | 3, hj => simp at hj; rw [← hj]; exact h3
  | 4, hj => simp at hj; rw [← hj]; exact h4
  | j + 5, hj =>
   simp only [List.getElem?_cons_succ] at hj
   rw [show off + (j + 5) = off + 5 + j from by omega]
   exact k2 j u hj
theorem cellsD_append {w : World} {B : Nat} : ∀ {l k : List Dat} {xs ys : List Value}, CellsD w B l xs → CellsD w B k ys → CellsD w B (l ++ k) (xs ++ ys)
 | [], _, xs, _, h, h' => by
  obtain rfl : xs = [] := h
  exact h'
 | x :: l, _, xs, _, h, h' => by
  obtain ⟨c0, c1, c2, c3, c4, xs', rfl, hx, h2⟩ := h
  exact ⟨c0, c1, c2, c3, c4, _, rfl, hx, cellsD_append h2 h'⟩
theorem OwnB.rep {W : World} {base : Nat} {l : List Dat} {v : Value} (h : OwnB W base l v) (hb : base ≤ W.heap.size) : RepS W W.heap.size l v := by
 obtain ⟨xs, h1, h2⟩ := h
 exact repS_of_row h1 h2 hb
theorem OwnB.form {W : World} {base : Nat} {l : List Dat} {v : Value} (h : OwnB W base l v) : ∃ o len cap, v = .slice o len cap ∧ len ≤ cap ∧ len = l.length := by
 obtain ⟨xs, h1, _⟩ := h
 rcases h1.2 with ⟨hv, h0⟩ | ⟨g, cap, cur, hv, _, _, h2, _⟩
 ·exact ⟨_, _, _, hv, Nat.le_refl _, h0.symm⟩
 ·exact ⟨_, _, _, hv, h2, rfl⟩
theorem OwnB.new (W : World) : OwnB (W.alloc (.cells #[] 33)) W.heap.size [] (.slice (some ⟨W.heap.size, 0, none⟩) 0 0) := ⟨[], World.ownsRow_made W #[] 0 (Nat.le_refl _) (by decide) rfl, rfl⟩
theorem wpList_wanted {P : Program} {ops : Array Oper} {rest : List Oper} {o : Oper} {a : Act} {w : World} {Q : Exit → Act → World → Prop} (hw : Region.wanted o (yielded ops a.tmps) = true)
  (h : ∀ K : Act → World → Prop, (∀ a w, wpList P ops Q rest a w → K a w) → o.wp P a w K Q) : wpList P ops Q (o :: rest) a w :=
 wpList_step fun K hK => by rw [if_pos hw]; exact h K hK
theorem wp_growB {W : World} {o : Oper} {a : Act} {K : Act → World → Prop} {Q : Exit → Act → World → Prop} (s x : Operand)
  (ho : o.op = .call { callee := .builtin .append, args := #[s, x], argTypes := #[24, 24] }) (base : Nat) (v xv : Value) (l k : List Dat) (hs : a.eval s = v) (hg : Hid (OwnB W base l v)) (hx : a.eval x = xv) (hk : Hid (RepS W base k xv))
  (hm : l.length + k.length ≤ 1000000) (hb : base ≤ W.heap.size)
  (h : ∀ o' len' cap' w', Hid (OwnB w' base (l ++ k) (.slice o' len' cap')) → Hid (Below base W w') → K (a.put o.dst (.slice o' len' cap')) w') :
  o.wp Tryz.prog a W K Q := by
 obtain ⟨xs, h1, h2⟩ := hg.out
 obtain ⟨ox, lenx, capx, rfl, hlx, hcx, hmx, hrx⟩ := hk.out
 obtain ⟨i0, hi, hz0, hz1, hz2⟩ := info_parts info_datum
 cases k with
 | nil =>
  obtain ⟨ov, lenv, capv, rfl, hlc, hlv⟩ := OwnB.form hg.out
  have h0 : lenx = 0 := by simpa using hlx
  subst h0
  have hr : ∀ ty, (Builtin.append_ #[24, 24] ty #[.slice ov lenv capv, .slice ox 0 capx]).run Tryz.prog W = .ok (.slice ov lenv capv) W := fun ty => by
   have hle : lenv + 0 ≤ capv := by omega
   cases ov <;> cases ox <;> simp [go_sem, Builtin.append_, hlc, Builtin.firstCells, storeCells, Builtin.lenOf]
  unfold Oper.wp execOp
  simp only [ho, resolve, invoke, builtin, Sem.run_bind, Sem.run_pure, Result.andThen_ok, List.map_toArray, List.map_cons, List.map_nil, hs, hx, hr]
  exact h _ _ _ _ (by rw [List.append_nil]; exact hg) (Lib.hid (Below.refl _ _))
 | cons y k =>
  cases ox with
  | none => exact absurd hrx.1 (by simp)
  | some ad =>
   obtain ⟨hsp, hblk⟩ := hrx.1 (by simp)
   obtain ⟨blk, off, sp⟩ := ad
   obtain rfl : sp = none := hsp
   obtain ⟨ys, k1, k2⟩ := repC_row _ _ hrx.2
   refine wp_append_lies W s x 24 ho base 33 i0 (.agg #[.int .i64 0, .int .i64 0, .int .i64 0, .string ⟨#[]⟩, .slice none 0 0]) 5 64 Tryz.underlying24 hi hz0 hz1 hz2 rfl (by decide) v l.length xs hs h1 ⟨blk, off, none⟩ lenx capx ys hx (by rw [k1.length, hlx]) (fun j u hu => by rcases j with _ | j <;> simpa [Addr.add] using k2 _ u hu) k1.oneCell (by rw [hlx]; simp) (by rw [hlx]; unfold maxLen; simp only [List.length_cons] at hm ⊢; omega) (by rw [hlx]; omega) hb W.heap.size rfl ?_
   intro g cap w' m1 m2 m3 m4
   have hbl : Below base W w' := by
    refine ⟨m2.os, m2.tape, m2.output, m2.size, fun c hc => m2.block c (by omega) fun e => ?_⟩
    have := (h1.lt c e.symm).1
    omega
   refine h _ _ _ _ (Lib.hid ⟨xs ++ ys, ?_, ?_⟩) (Lib.hid hbl)
   ·rw [List.length_append, ← hlx]; exact m1
   ·exact (cellsD_append h2 k1).mono fun z u hz => hz.kept hbl
end
section
open Go Go.RowKit
def blankedS (s t : ByteArray) : ByteArray := ((((⟨#[32, 59, 32, 41, 40, 10, 9]⟩ ++ s) ++ ⟨#[10, 32, 59, 40]⟩) ++ ⟨#[10]⟩) ++ t) ++ ⟨#[10, 59, 34]⟩
theorem blankedS_bytes (s t : ByteArray) : (blankedS s t).data.toList = Rd.blanked s.data.toList t.data.toList := by
 simp [blankedS, Rd.blanked]
theorem blankedS_size (s t : ByteArray) : (blankedS s t).size = s.size + t.size + 15 := by
 have h := congrArg List.length (blankedS_bytes s t)
 have e : (blankedS s t).data.toList.length = (blankedS s t).size := rfl
 have e1 : s.data.toList.length = s.size := rfl
 have e2 : t.data.toList.length = t.size := rfl
 rw [e] at h
 simp only [Rd.blanked, List.length_append, e1, e2] at h
 simp at h
 omega
theorem readerBlanks_walk (s t : ByteArray) (hs : s.size ≤ 140737488355328) (ht : t.size ≤ 140737488355328) (w : World) (hE : Env w) :
  Calls Tryz.prog 4 #[.string s, .string t] w fun e w' => e = .returned (.bool true) ∧ Below w.heap.size w w' := by
 have HAW := Lib.hid (awake3_any w hE)
 have HDS := Lib.hid (fun (h : s.size ≤ 65536) W => ldeep_any s h W)
 have HDT := Lib.hid (fun (h : t.size ≤ 65536) W => ldeep_any t h W)
 obtain ⟨n1, hn1⟩ : ∃ n, deepN s.data.toList = n := ⟨_, rfl⟩
 obtain ⟨n2, hn2⟩ : ∃ n, deepN t.data.toList = n := ⟨_, rfl⟩
 rw [hn1] at HDS
 rw [hn2] at HDT
 have hn1' : n1 ≤ s.size := by rw [← hn1]; exact deepN_le _
 have hn2' : n2 ≤ t.size := by rw [← hn2]; exact deepN_le _
 clear hn1 hn2 hE
 go_enter Tryz.func4, Tryz.ntmps4
 go_upto_region 2 with (first | (go_at_call 12; refine HAW.out.mono ?_; rintro e' w1 ⟨rfl, hb1⟩))
 have HB1 := Lib.hid hb1
 clear hb1
 by_cases hsz : s.size ≤ 400
 case neg =>
  have hd : decide (400 < (s.size : Int)) = true := by simp; omega
  go_wp2_with fail
  go_ret
  exact ⟨rfl, HB1.out⟩
 have hd : decide (400 < (s.size : Int)) = false := by simp; omega
 by_cases htz : t.size ≤ 400
 case neg =>
  have hd2 : decide (400 < (t.size : Int)) = true := by simp; omega
  go_wp2_with fail
  go_ret
  exact ⟨rfl, HB1.out⟩
 have hd2 : decide (400 < (t.size : Int)) = false := by simp; omega
 by_cases hdp : 300 < n1 + n2
 ·have hd3 : decide (300 < ((n1 : Int) + (n2 : Int))) = true := by simp; omega
  go_wp2_with (first | (go_at_call 13; (with_reducible refine (HDS.out (by omega) _).mono ?_); rintro e' w2 ⟨rfl, rfl⟩) | (go_at_call 13; (with_reducible refine (HDT.out (by omega) _).mono ?_); rintro e' w2 ⟨rfl, rfl⟩))
  go_ret
  exact ⟨rfl, HB1.out⟩
 have hd3 : decide (300 < ((n1 : Int) + (n2 : Int))) = false := by simp; omega
 go_upto_region 4 with (first | (go_at_call 13; (with_reducible refine (HDS.out (by omega) _).mono ?_); rintro e' w2 ⟨rfl, rfl⟩) | (go_at_call 13; (with_reducible refine (HDT.out (by omega) _).mono ?_); rintro e' w2 ⟨rfl, rfl⟩))
 clear hd hd2 hd3 hdp hn1' hn2' HDS HDT
 have hXz : (blankedS s t).size ≤ 65536 := by rw [blankedS_size]; omega
 have HRX := Lib.hid (fun W => read_any (blankedS s t) W (by omega))
 have HRS := Lib.hid (fun W => read_any s W (by omega))
 have HRT := Lib.hid (fun W => read_any t W (by omega))
 cases hA : Rd.A s.data.toList with
 | bad q =>
  have HR1 := Lib.hid (fun W => read_no (readD_bad (by omega) hA) (by omega) W)
  go_upto_region 5 with (first | (go_at_call 14; refine (HR1.out _).mono ?_; rintro e' w3 ⟨o3, len3, cap3, rfl, hr3, hb3⟩; have HB3 := Lib.hid hb3; clear hr3 hb3))
  go_upto_region 6 with (first | (go_at_call 14; refine (HRT.out _).mono ?_; rintro e' w4 ⟨v4, rfl, hr4, hv4, hb4⟩; have HB4 := Lib.hid hb4; clear hr4 hb4 hv4))
  go_upto_region 7 with (first | (go_at_call 14; refine (HRX.out _).mono ?_; rintro e' w5 ⟨v5, rfl, hr5, hv5, hb5⟩; have HB5 := Lib.hid hb5; clear hr5 hb5 hv5))
  go_wp2_with fail
  all_goals go_ret
  all_goals exact ⟨rfl, Below.next (Below.next (Below.next HB1.out HB3.out) HB4.out) HB5.out⟩
 | ok l q =>
  obtain rfl := Rd.A_ok hA
  have HR1 := Lib.hid (fun W => read_ok (readD_ok (by omega) hA) (by omega) W)
  have hbl := Rd.A_blanked (b := t.data.toList) hA
  cases hT : Rd.A t.data.toList with
  | bad q =>
   obtain ⟨q', hq'⟩ := hbl.2 q hT
   rw [← blankedS_bytes] at hq'
   have HR2 := Lib.hid (fun W => read_no (readD_bad (by omega) hT) (by omega) W)
   have HR3 := Lib.hid (fun W => read_no (readD_bad hXz hq') (by omega) W)
   clear hbl hq' hT hA
   go_upto_region 5 with (first | (go_at_call 14; refine (HR1.out _).mono ?_; rintro e' w3 ⟨o3, len3, cap3, rfl, hr3, hb3⟩; have HB3 := Lib.hid hb3; clear hr3 hb3))
   go_upto_region 6 with (first | (go_at_call 14; refine (HR2.out _).mono ?_; rintro e' w4 ⟨o4, len4, cap4, rfl, hr4, hb4⟩; have HB4 := Lib.hid hb4; clear hr4 hb4))
   go_upto_region 7 with (first | (go_at_call 14; refine (HR3.out _).mono ?_; rintro e' w5 ⟨o5, len5, cap5, rfl, hr5, hb5⟩; have HB5 := Lib.hid hb5; clear hr5 hb5))
   go_wp2_with fail
   go_ret
   exact ⟨rfl, Below.next (Below.next (Below.next HB1.out HB3.out) HB4.out) HB5.out⟩
  | ok k q =>
   obtain rfl := Rd.A_ok hT
   have hq' := hbl.1 k hT
   rw [← blankedS_bytes] at hq'
   have HR2 := Lib.hid (fun W => read_ok (readD_ok (by omega) hT) (by omega) W)
   have HR3 := Lib.hid (fun W => read_ok (readD_ok hXz hq') (by omega) W)
   have hll := Rd.A_len hA
   have hlk := Rd.A_len hT
   have hm : l.length + k.length ≤ 1000000 := by
    have e1 : s.data.toList.length = s.size := rfl
    have e2 : t.data.toList.length = t.size := rfl
    omega
   clear hbl hq' hT hA hll hlk
   go_upto_region 5 with (first | (go_at_call 14; refine (HR1.out _).mono ?_; rintro e' w3 ⟨o3, len3, cap3, rfl, hr3, hb3⟩; have HB3 := Lib.hid hb3; have HV3 := Lib.hid hr3; clear hr3 hb3))
   go_upto_region 6 with (first | (go_at_call 14; refine (HR2.out _).mono ?_; rintro e' w4 ⟨o4, len4, cap4, rfl, hr4, hb4⟩; have HB4 := Lib.hid hb4; have HV4 := Lib.hid hr4; clear hr4 hb4))
   go_upto_region 7 with (first | (go_at_call 14; refine (HR3.out _).mono ?_; rintro e' w5 ⟨o5, len5, cap5, rfl, hr5, hb5⟩; have HB5 := Lib.hid hb5; have HV5 := Lib.hid hr5; clear hr5 hb5))
   have HL5 := Lib.hid (((HV3.out.kept HB4.out).wider HB4.out.size).kept HB5.out |>.wider HB5.out.size)
   have HK5 := Lib.hid ((HV4.out.kept HB5.out).wider HB5.out.size)
   have HB := Lib.hid (Below.next (Below.next (Below.next HB1.out HB3.out) HB4.out) HB5.out)
   clear HV3 HV4 HB3 HB4 HB5 HR1 HR2 HR3 HRX HRS HRT
   have HO := Lib.hid (OwnB.new w5)
   have h1 : Below w5.heap.size w5 (w5.alloc (.cells #[] 33)) := Below.one _ _
   have HL6 := Lib.hid (HL5.out.kept h1)
   have hz6 : w5.heap.size ≤ (w5.alloc (.cells #[] 33)).heap.size := h1.size
   have HB6 := Lib.hid h1
   clear h1
   go_upto_region 11 with fail
   go_wp2_with (first | (at_builtin; refine wpList_wanted rfl fun K hK => wp_growB (.tmp 74) (.tmp 75) rfl w5.heap.size (.slice (some ⟨w5.heap.size, 0, none⟩) 0 0) (.slice o3 len3 cap3) [] l rfl HO rfl HL6 (by simp; omega) hz6 fun o7 len7 cap7 w7 h7 h8 => hK _ _ ?_; rw [List.nil_append] at h7; have HK7 := Lib.hid (HK5.out.kept (HB6.out.trans h8.out)); have hz7 : w5.heap.size ≤ w7.heap.size := Nat.le_trans hz6 h8.out.size) | (at_builtin; refine wpList_wanted rfl fun K2 hK2 => wp_growB (.tmp 76) (.tmp 77) rfl w5.heap.size (.slice o7 len7 cap7) (.slice o4 len4 cap4) l k rfl h7 rfl HK7 hm hz7 fun o8 len8 cap8 w8 h9 h10 => hK2 _ _ ?_; have hb8 : Below w5.heap.size w5 w8 := (HB6.out.trans h8.out).trans h10.out; have HS := Lib.hid (lsame_any (l ++ k) (.slice o5 len5 cap5) (.slice o8 len8 cap8) w8.heap.size w8 ((HV5.out.kept hb8).wider hb8.size) (h9.out.rep hb8.size) (Nat.le_refl _)); have HB8 := Lib.hid hb8; clear hb8) | (go_at_call 16; refine HS.out.mono ?_; rintro e' w9 ⟨rfl, hb9⟩; have HB9 := Lib.hid hb9; clear hb9))
   go_ret
   exact ⟨rfl, Below.next (Below.next HB.out HB8.out) HB9.out⟩
end
end Go.Proofs.YtpcneeekmhdhgaaGreatDoor

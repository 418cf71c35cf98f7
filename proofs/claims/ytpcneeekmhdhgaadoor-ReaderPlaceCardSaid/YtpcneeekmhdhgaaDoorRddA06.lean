/-
  What the proofs lean on: RdG, RdP1, RdP2, RdP3.
-/
import Derived.Deep.AppendLies
import Derived.WalkLawsBesides
import Derived.Test.YtpcneeekmhdhgaaDoorRddA05
set_option maxRecDepth 100000
set_option maxHeartbeats 16000000
namespace Go.Proofs.YtpcneeekmhdhgaaDoor
section
open Go Go.RowKit
def Lo (K b : Nat) : Prop := b < K
def LoR (K : Nat) (v : Value) (b : Nat) : Prop := b < K ∨ v.ownBlock = some b
def GrownH (W : World) (K base : Nat) (l : List Dat) (v : Value) : Prop := K ≤ base ∧ ∃ xs, W.ownsRow base 30 5 v l.length xs ∧ CellsD (hide W (LoR K v)) W.heap.size l xs
theorem GrownH.nil (W : World) {K base : Nat} (h : K ≤ base) : GrownH W K base [] (.slice none 0 0) := ⟨h, [], World.ownsRow_nil _ _ _ _, rfl⟩
theorem GrownH.block {W : World} {K base : Nat} {l : List Dat} {v : Value} (h : GrownH W K base l v) {g : Nat} (hg : v.ownBlock = some g) : base ≤ g ∧ g < W.heap.size := by
 obtain ⟨_, xs, h1, _⟩ := h
 exact h1.lt g hg
theorem GrownH.low {W : World} {K base : Nat} {l : List Dat} {v : Value} (h : GrownH W K base l v) : ∀ g, v.ownBlock = some g → ¬ Lo K g := fun g hg hl => by
 have := (h.block hg).1
 have := h.1
 unfold Lo at hl
 omega
theorem GrownH.turned {T : Nat → Prop} {W W' : World} {K base : Nat} {l : List Dat} {v : Value} (h : GrownH W K base l v) (ht : Turned T W W') (hT : ∀ b, b < W.heap.size → T b → Lo K b) : GrownH W' K base l v := by
 obtain ⟨h0, xs, h1, h2⟩ := h
 have hlow := GrownH.low ⟨h0, xs, h1, h2⟩
 refine ⟨h0, xs, ?_, h2.shown (Shown.turned ht fun b hb hs => .inl (hT b hb hs)) ht.size⟩
 refine ⟨h1.1, ?_⟩
 rcases h1.2 with h' | ⟨g, cap, cur, rfl, k2, k3, k4⟩
 ·exact .inl h'
 ·refine .inr ⟨g, cap, cur, rfl, k2, ?_, k4⟩
  have hlt := (h1.lt g rfl).2
  exact (ht.block g hlt fun hs => hlow g rfl (hT g hlt hs)).trans k3
theorem GrownH.below {W W' : World} {K base : Nat} {l : List Dat} {v : Value} (h : GrownH W K base l v) (hb : Below W.heap.size W W') : GrownH W' K base l v :=
 h.turned (T := fun _ => False) (Turned.of_below hb) fun _ _ h => h.elim
theorem GrownH.five {W : World} {K base B : Nat} {l : List Dat} {v : Value} (h : GrownH W K base l v) (hB : B < K) (d0 d1 d2 d3 d4 : Value) : GrownH (set5 W B d0 d1 d2 d3 d4) K base l v :=
 h.turned (T := fun b => b = B) ⟨(set5_below W B B d0 d1 d2 d3 d4 (Nat.le_refl _)).os, (set5_below W B B d0 d1 d2 d3 d4 (Nat.le_refl _)).tape, (set5_below W B B d0 d1 d2 d3 d4 (Nat.le_refl _)).output, by rw [set5_size]; exact Nat.le_refl _, fun b _ hn => set5_heap _ _ _ _ _ _ _ hn⟩ fun b _ hb => by subst hb; exact hB
theorem GrownH.rep {W : World} {K base : Nat} {l : List Dat} {v : Value} (h : GrownH W K base l v) : RepS (hide W (Lo K)) W.heap.size l v := by
 obtain ⟨h0, xs, h1, h2⟩ := h
 have hlow := GrownH.low ⟨h0, xs, h1, h2⟩
 have := repS_of_row (w := hide W (Lo K)) (B := W.heap.size) (row_hide h1 hlow) (h2.shown (Shown.less W fun b _ hb => .inl hb) (Nat.le_refl _)) (by rw [hide_size]; exact Nat.le_refl _)
 rwa [hide_size] at this
theorem GrownH.form {W : World} {K base : Nat} {l : List Dat} {v : Value} (h : GrownH W K base l v) : ∃ o len cap, v = .slice o len cap ∧ len = l.length := by
 obtain ⟨_, xs, h1, _⟩ := h
 rcases h1.2 with ⟨hv, h0⟩ | ⟨g, cap, cur, hv, _⟩
 ·exact ⟨_, _, _, hv, h0.symm⟩
 ·exact ⟨_, _, _, hv, rfl⟩
theorem cells5_one {c0 c1 c2 c3 c4 : Value} {w : World} {B : Nat} {x : Dat} (h : RepD w B x (.agg #[c0, c1, c2, c3, c4])) : ∀ u ∈ [c0, c1, c2, c3, c4], u.oneCell' = true := by
 obtain ⟨k, n, d, s, l⟩ := x
 obtain ⟨sl, he, _, _, _, _, o, len, cap, rfl, _⟩ := h.open
 simp only [Value.agg.injEq, Array.mk.injEq, List.cons.injEq, and_true] at he
 obtain ⟨rfl, rfl, rfl, rfl, rfl⟩ := he
 intro u hu
 simp only [List.mem_cons, List.not_mem_nil, or_false] at hu
 rcases hu with rfl | rfl | rfl | rfl | rfl <;> rfl
theorem wpList_grow {W : World} {ops : Array Oper} {rest : List Oper} {o : Oper} {a : Act} {Q : Exit → Act → World → Prop} (hgd : o.guard = none) (s x : Operand)
  (ho : o.op = .call { callee := .builtin .append, args := #[s, x], argTypes := #[23, 23] }) (K base E : Nat) (v : Value) (l : List Dat) (y : Dat) (c0 c1 c2 c3 c4 : Value) (hs : a.eval s = v) (hg : GrownH W K base l v)
  (hy : RepD (hide W (Lo E)) W.heap.size y (.agg #[c0, c1, c2, c3, c4])) (hE : K ≤ E) (hEr : ∀ g, v.ownBlock = some g → g < E) (hm : l.length ≤ 1000000) (hb : base ≤ W.heap.size) (hx : a.eval x = .slice (some ⟨W.heap.size, 0, none⟩) 1 1)
  (h : ∀ g cap w', GrownH w' K base (l ++ [y]) (.slice (some ⟨g, 0, none⟩) (l.length + 1) cap) → Turned (fun b => v.ownBlock = some b) W w' → wpList Tryd.prog ops Q rest (a.put o.dst (.slice (some ⟨g, 0, none⟩) (l.length + 1) cap)) w') :
  wpList Tryd.prog ops Q (o :: rest) a (W.alloc (.cells #[c0, c1, c2, c3, c4] 30)) := by
 obtain ⟨h0, xs, h1, h2⟩ := hg
 obtain ⟨i0, hi, hz0, hz1, hz2⟩ := info_parts info_datum
 refine wpList_append_lies (w := W.alloc (.cells #[c0, c1, c2, c3, c4] 30)) hgd s x 23 ho base 30 i0 (.agg #[.int .i64 0, .int .i64 0, .int .i64 0, .string ⟨#[]⟩, .slice none 0 0]) 5 64 Tryd.underlying23 hi hz0 hz1 hz2 rfl (by decide) v l.length xs hs (h1.alloc _) ⟨W.heap.size, 0, none⟩ 1 1 [c0, c1, c2, c3, c4] hx rfl (new_five W _ _ _ _ _ _) (cells5_one hy) (by decide) (by unfold maxLen; omega) (by omega) (by simp; omega) (W.heap.size + 1) (by simp) ?_
 intro g cap w' k1 k2 k3 k4
 have hone : Below W.heap.size W (W.alloc (.cells #[c0, c1, c2, c3, c4] 30)) := Below.one _ _
 have ht : Turned (fun b => v.ownBlock = some b) W w' := (Turned.of_below hone).next (Turned.grown k2 fun b hb => hb)
 refine h g cap w' ⟨h0, xs ++ [c0, c1, c2, c3, c4], by simpa using k1, ?_⟩ ht
 have hnew : ∀ b, LoR K (.slice (some ⟨g, 0, none⟩) (l.length + 1) cap) b → b < W.heap.size → LoR K v b := by
  intro b hb hlt
  rcases hb with hb | hb
  ·exact .inl hb
  ·simp only [Value.ownBlock, Option.some.injEq] at hb
   subst hb
   rcases k3 with k3 | k3
   ·exact .inr k3
   ·omega
 have sh : Shown W (LoR K v) w' (LoR K (.slice (some ⟨g, 0, none⟩) (l.length + 1) cap)) := by
  intro c o' u hc hu
  have hlt := cell_lt hu
  obtain ⟨_, h5⟩ := Shown.turned (S := LoR K v) ht (fun b _ hb => .inr hb) c o' u hc hu
  exact ⟨fun hs => hc (hnew c hs hlt), h5⟩
 refine CellsD.snoc ?_ (h2.shown sh ht.size)
 refine hy.shown ?_ ht.size
 intro c o' u hc hu
 have hlt := cell_lt hu
 have hc2 : ¬ LoR K v c := fun hh => hh.elim (fun hh => hc (Nat.lt_of_lt_of_le hh hE)) fun hh => hc (hEr c hh)
 exact sh c o' u hc2 hu
end
section
open Go Go.RowKit
def stopAt (n : Nat) : List PanicEntry := [{ v := .iface 32 (.agg #[.int .i64 n]), recovered := false }]
namespace Num
theorem mk_small (n d : Int) : (mk n d).1.natAbs ≤ 2147483647 ∧ (mk n d).2.1.natAbs ≤ 2147483647 := by
 unfold mk
 split
 ·decide
 split
 ·decide
 ·rename_i h
  split
  ·simp only [Int.natAbs_natCast]; omega
  ·simp only [Int.natAbs_neg, Int.natAbs_natCast]; omega
theorem parseU_small (neg : Bool) (l : List UInt8) : (parseU neg l).1.natAbs ≤ 2147483647 ∧ (parseU neg l).2.1.natAbs ≤ 2147483647 := by
 unfold parseU
 split
 ·exact mk_small _ _
 ·decide
theorem parse_small (l : List UInt8) : (parse l).1.natAbs ≤ 2147483647 ∧ (parse l).2.1.natAbs ≤ 2147483647 := by
 unfold parse
 split
 ·exact parseU_small _ _
 ·exact parseU_small _ _
end Num
theorem turned_low {S : Nat → Prop} {A B C : World} (h : Turned S A B) (hb : Below A.heap.size B C) : Turned S A C :=
 ⟨hb.os.trans h.os, hb.tape.trans h.tape, hb.output.trans h.output, Nat.le_trans h.size hb.size, fun b hlt hn => (hb.block b hlt).trans (h.block b hlt hn)⟩
def PClosed (b : Nat) (s : ByteArray) (r : List UInt8) (w : World) (e : Ending) (w' : World) : Prop :=
 match Rd.skip false r with
 | [] => e = .panicked (stopAt s.size) ∧ Turned (fun c => c = b) w w'
 | c :: t => if c = 41 then e = .returned (.bool true) ∧ PGo b s t w w' else e = .returned (.bool false) ∧ PGo b s (c :: t) w w'
theorem u8_eq (x y : UInt8) : ((x.toNat : Int) == (y.toNat : Int)) = decide (x = y) := by
 by_cases h : x = y
 ·subst h; simp
 ·have : ¬ x.toNat = y.toNat := fun e => h (UInt8.toNat_inj.1 e)
  rw [decide_eq_false h, beq_eq_false_iff_ne]
  omega
theorem u8_ne (x y : UInt8) : ((x.toNat : Int) != (y.toNat : Int)) = !decide (x = y) := by rw [bne, u8_eq]
theorem pclosed_any (b : Nat) (s : ByteArray) (a : Nat) (r : List UInt8) (w : World) (hp : PB w b s a) (hat : Rd.At s a r) (hs : s.size ≤ 65536) :
  Calls Tryd.prog 36 #[.pointer (some ⟨b, 0, none⟩)] w (PClosed b s r w) := by
 have HC := Lib.hid (pblanks_any b s a r w hp hat hs)
 have hq := hat.suf (Rd.skip_suf r false)
 cases hr : Rd.skip false r with
 | nil =>
  have HP := Lib.hid (show ∀ e w', e = Ending.panicked (stopAt s.size) ∧ Turned (fun c => c = b) w w' → PClosed b s r w e w' from fun e w' h => by unfold PClosed; rw [hr]; exact h)
  rw [hr] at HC
  have hd : decide (s.size - ([] : List UInt8).length < s.size) = false := by simp
  rw [hd] at HC
  clear hp hat hq hr hd
  go_enter Tryd.func36, Tryd.ntmps36
  go_wp2_with (first | (go_at_call 8; refine HC.out.mono ?_; rintro e' w1 ⟨rfl, hg⟩; have c1 := hg.1.cell 1 rfl; have hl := hg.1.lt; have HT := Lib.hid hg.2; clear hg))
  exact ⟨rfl, HP.out _ _ ⟨rfl, HT.out⟩⟩
 | cons c t =>
  have HP := Lib.hid (show ∀ e w', (if c = 41 then e = Ending.returned (.bool true) ∧ PGo b s t w w' else e = Ending.returned (.bool false) ∧ PGo b s (c :: t) w w') → PClosed b s r w e w' from fun e w' h => by unfold PClosed; rw [hr]; exact h)
  rw [hr] at HC hq
  have hz := hq.1
  simp only [List.length_cons] at hz
  have hd : decide (s.size - (c :: t).length < s.size) = true := by simp only [List.length_cons, decide_eq_true_eq]; omega
  rw [hd] at HC
  obtain ⟨hlt, hget⟩ := hq.get
  have HADD := Lib.hid (show ((s.size - (c :: t).length : Nat) : Int) + 1 = ((s.size - t.length : Nat) : Int) from by simp only [List.length_cons]; omega)
  obtain ⟨k, hk⟩ : ∃ k, s.size - (c :: t).length = k := ⟨_, rfl⟩
  have hget2 : ∃ h : k < s.size, s[k] = c := by subst hk; exact ⟨hlt, hget⟩
  obtain ⟨hlt2, hgt⟩ := hget2
  rw [hk] at HADD
  have HK := Lib.hid hk
  clear hget hlt
  have h41 : ((c.toNat : Int) != 41) = !decide (c = 41) := u8_ne c 41
  clear hp hat hq hr hd hz hk
  by_cases hc : c = 41
  ·rw [decide_eq_true hc] at h41
   have HP2 := Lib.hid (show ∀ e w', e = Ending.returned (.bool true) ∧ PGo b s t w w' → PClosed b s r w e w' from fun e w' h => HP.out e w' (by rw [if_pos hc]; exact h))
   clear hc HP
   go_enter Tryd.func36, Tryd.ntmps36
   go_wp2_with (first | (go_at_call 8; refine HC.out.mono ?_; rintro e' w1 ⟨rfl, hg⟩; have hp1 := hg.1; rw [HK.out] at hp1; have c0 := hp1.cell 0 rfl; have c1 := hp1.cell 1 rfl; have z1 := hp1.free 1; have hl := hp1.lt; have HT := Lib.hid hg.2; have HP1 := Lib.hid hp1; clear hg hp1))
   go_quiet (fail)
   go_wp2
   go_ret
   refine HP2.out _ _ ⟨rfl, ?_⟩
   rw [HADD.out]
   exact ⟨PB.set (BoxL.keep HP1.out (Below.selfN _ _)) _, (HT.out.next (Turned.of_below (Below.selfN _ _))).next (Turned.set _ _ _ rfl)⟩
  ·rw [decide_eq_false hc] at h41
   have HP2 := Lib.hid (show ∀ e w', e = Ending.returned (.bool false) ∧ PGo b s (c :: t) w w' → PClosed b s r w e w' from fun e w' h => HP.out e w' (by rw [if_neg hc]; exact h))
   clear hc HP
   go_enter Tryd.func36, Tryd.ntmps36
   go_wp2_with (first | (go_at_call 8; refine HC.out.mono ?_; rintro e' w1 ⟨rfl, hg⟩; have hp1 := hg.1; rw [HK.out] at hp1; have c0 := hp1.cell 0 rfl; have c1 := hp1.cell 1 rfl; have z1 := hp1.free 1; have hl := hp1.lt; have HT := Lib.hid hg.2; have HP1 := Lib.hid hp1; clear hg hp1))
   go_quiet (fail)
   go_wp2
   go_ret
   refine HP2.out _ _ ⟨rfl, ?_⟩
   exact ⟨by rw [HK.out]; exact BoxL.keep HP1.out (Below.selfN _ _), HT.out.next (Turned.of_below (Below.selfN _ _))⟩
def PDat (b : Nat) (s : ByteArray) (res : Rd.Res Dat) (w : World) (e : Ending) (w' : World) : Prop :=
 match res with
 | .ok x q => ∃ v, e = .returned v ∧ RepD (hide w' (Lo w.heap.size)) w'.heap.size x v ∧ PGo b s q w w'
 | .bad q => e = .panicked (stopAt (s.size - q.length)) ∧ Turned (fun c => c = b) w w'
theorem pdat_leaf {b : Nat} {s : ByteArray} {q : List UInt8} {w wr w2 : World} (k n d : Int) (S : ByteArray) (hT : Turned (fun c => c = b) w wr) (hB : Below wr.heap.size wr w2) (hP : PB wr b s (s.size - q.length)) (hne : w.heap.size ≠ b)
  (hk : -9223372036854775808 ≤ k ∧ k ≤ 9223372036854775807) (hn : -9223372036854775808 ≤ n ∧ n ≤ 9223372036854775807) (hd : -9223372036854775808 ≤ d ∧ d ≤ 9223372036854775807) (hs : S.size ≤ 140737488351232) :
  PDat b s (.ok (.mk k n d S []) q) w (.returned (.agg #[.int .i64 k, .int .i64 n, .int .i64 d, .string S, .slice none 0 0])) (set5 w2 w.heap.size (.int .i64 k) (.int .i64 n) (.int .i64 d) (.string S) (.slice none 0 0)) := by
 refine ⟨_, rfl, RepD.shut hk hn hd hs ⟨none, 0, 0, rfl, rfl, by omega, by omega, rfl, rfl⟩, ?_, turned_low (hT.next (Turned.of_below hB)) (set5_below _ _ _ _ _ _ _ _ (Nat.le_refl _))⟩
 exact (set5_heap _ _ _ _ _ _ _ (Ne.symm hne)).trans (BoxL.keep hP hB)
theorem extract_mid {s : ByteArray} {a : Nat} {t q : List UInt8} (h : Rd.At s a (t ++ q)) : s.extract a (s.size - q.length) = ⟨t.toArray⟩ := by
 have h1 := h.1
 rw [List.length_append] at h1
 rw [extract_list]
 congr 2
 rw [List.drop_take, h.2]
 have : s.size - q.length - a = t.length := by omega
 rw [this, List.take_left]
theorem idx_any (c : UInt8) (k : Int) (hk : Lib.indexByte Rd.wordsL c = k) (w : World) : Calls Tryd.prog 16 #[.string ⟨#[97, 98, 99, 100, 101, 102, 103, 104, 105, 106, 107, 108, 109, 110, 111, 112, 113, 114, 115, 116, 117, 118, 119, 120, 121, 122, 48, 49, 50, 51, 52, 53, 54, 55, 56, 57, 45, 43, 42, 47, 60, 62, 61, 33, 63, 95]⟩, .int .u8 c.toNat] w fun e w' => e = .returned (.int .i64 k) ∧ w' = w := by
 have := Tryd.strings_IndexByte ⟨#[97, 98, 99, 100, 101, 102, 103, 104, 105, 106, 107, 108, 109, 110, 111, 112, 113, 114, 115, 116, 117, 118, 119, 120, 121, 122, 48, 49, 50, 51, 52, 53, 54, 55, 56, 57, 45, 43, 42, 47, 60, 62, 61, 33, 63, 95]⟩ c.toNat w
 refine this.mono ?_
 rintro e w' ⟨rfl, rfl⟩
 refine ⟨?_, rfl⟩
 rw [← hk]
 simp
 rfl
theorem idx_mark (c : UInt8) : (0 ≤ Lib.indexByte Rd.wordsL c ↔ Rd.mark c = true) := by
 unfold Rd.mark
 rw [Lib.contains_iff_indexByte]
 simp
theorem idx_quiet (c : UInt8) (k : Int) (hk : Lib.indexByte Rd.wordsL c = k) (w : World) (n : Nat) : Calls Tryd.prog 16 #[.string ⟨#[97, 98, 99, 100, 101, 102, 103, 104, 105, 106, 107, 108, 109, 110, 111, 112, 113, 114, 115, 116, 117, 118, 119, 120, 121, 122, 48, 49, 50, 51, 52, 53, 54, 55, 56, 57, 45, 43, 42, 47, 60, 62, 61, 33, 63, 95]⟩, .int .u8 c.toNat] (w.drewN n) fun e w' => e = .returned (.int .i64 k) ∧ ∃ m, w' = w.drewN m :=
 (idx_any c k hk (w.drewN n)).mono fun _ _ h => ⟨h.1, n, h.2⟩
theorem pword_any (b : Nat) (s : ByteArray) (a : Nat) (r : List UInt8) (w : World) (hp : PB w b s a) (hat : Rd.At s a r) (hs : s.size ≤ 65536) :
  Calls Tryd.prog 17 #[.pointer (some ⟨b, 0, none⟩)] w (PDat b s (Rd.word r) w) := by
 obtain ⟨T, hT⟩ : ∃ T, r.takeWhile Rd.mark = T := ⟨_, rfl⟩
 obtain ⟨Q, hQ⟩ : ∃ Q, r.dropWhile Rd.mark = Q := ⟨_, rfl⟩
 obtain ⟨P, hP⟩ : ∃ P, Num.parse T = P := ⟨_, rfl⟩
 obtain ⟨n, d, z⟩ := P
 have hsm : (n.natAbs ≤ 2147483647) ∧ (d.natAbs ≤ 2147483647) := by have := Num.parse_small T; rw [hP] at this; exact this
 have htq : r = T ++ Q := by rw [← hT, ← hQ]; exact (List.takeWhile_append_dropWhile).symm
 have HR := Lib.hid (show Rd.word r = if z then .ok (.mk 0 n d Dat.emptyB []) Q else if 40 < T.length then .bad r else .ok (.mk 2 0 0 ⟨T.toArray⟩ []) Q from by unfold Rd.word; rw [hT, hQ, hP])
 have hlT : T.length ≤ s.size := by have := hat.1; rw [htq, List.length_append] at this; omega
 have HX := Lib.hid (show s.extract a (s.size - Q.length) = ⟨T.toArray⟩ from extract_mid (htq ▸ hat))
 have HPA := Lib.hid (fun W => parse_to ⟨T.toArray⟩ n d z hP (by simp [ByteArray.size]; omega) W)
 have HQ := Lib.hid hQ
 have HPP := Lib.hid hP
 have HA := Lib.hid hat
 have hal : a ≤ s.size := by have := hat.1; omega
 have hab : a + Q.length ≤ s.size := by have := hat.1; rw [htq, List.length_append] at this; omega
 have HP0 := Lib.hid hp
 have hb := hp.lt
 clear hT hQ hP htq hp
 obtain ⟨W0, hW0⟩ : ∃ W0, w.alloc (.cells #[.int .i64 0, .int .i64 0, .int .i64 0, .string ⟨#[]⟩, .slice none 0 0] 30) = W0 := ⟨_, rfl⟩
 have HW0 := Lib.hid hW0
 have HB5 := Lib.hid (show Box5 W0 w.heap.size 30 (.int .i64 0) (.int .i64 0) (.int .i64 0) (.string ⟨#[]⟩) (.slice none 0 0) from by rw [← hW0]; exact Box5.new w _ _ _ _ _ _)
 have HP1 := Lib.hid (show PB W0 b s a from by rw [← hW0]; exact BoxL.alloc HP0.out _)
 have HT0 := Lib.hid (show Turned (fun c => c = b) w W0 from by rw [← hW0]; exact Turned.of_below (Below.one _ _))
 have c1 := HP1.out.cell 1 rfl
 have hl1 := HP1.out.lt
 clear hW0
 go_enter Tryd.func17, Tryd.ntmps17
 go_upto_region 1 with fail
 rw [HW0.out]
 go_wp2_with fail
 go_loopg [] r.length (fun g wr => ∃ a' r', PB wr b s a' ∧ Rd.At s a' r' ∧ r'.dropWhile Rd.mark = Q ∧ r'.length ≤ g ∧ Turned (fun c => c = b) W0 wr)
 case atStart => exact ⟨a, r, HP1.out, HA.out, HQ.out, Nat.le_refl _, Turned.refl _ _⟩
 case round =>
  obtain ⟨a1, r1, hp1, hat1, hq1, hle, hT⟩ := hrel
  have c0 := hp1.cell 0 rfl
  have d1 := hp1.cell 1 rfl
  have z1 := hp1.free 1
  have dl := hp1.lt
  have HP2 := Lib.hid hp1
  have HT := Lib.hid hT
  have hla := hat1.1
  by_cases hin : ∃ c t, r1 = c :: t ∧ Rd.mark c = true
  ·obtain ⟨c, t, rfl, hc⟩ := hin
   obtain ⟨hlt, hget⟩ := hat1.get
   obtain ⟨k, hk⟩ : ∃ k, Lib.indexByte Rd.wordsL c = k := ⟨_, rfl⟩
   have hk0 : (0 ≤ k) := by rw [← hk]; exact (idx_mark c).2 hc
   have HI := Lib.hid (fun n => idx_quiet c k hk wr n)
   have HN := Lib.hid (show Rd.At s (a1 + 1) t ∧ t.dropWhile Rd.mark = Q from ⟨hat1.cons, by rw [← hq1, List.dropWhile_cons_of_pos hc]⟩)
   have hlt3 : decide (a1 < s.size) = true := by simp; omega
   simp only [List.length_cons] at hle hla
   clear hp1 hat1 hq1 hT hk
   go_wp2_with fail
   go_quiet ((go_at_call 16; exact HI.out _))
   have HADD := Lib.hid (show ((a1 : Int) + 1) = ((a1 + 1 : Nat) : Int) from by omega)
   go_wp2_with fail
   rw [HADD.out]
   go_roundg t.length
   case measure => omega
   case rel => exact ⟨a1 + 1, t, PB.set (BoxL.keep HP2.out (Below.selfN _ _)) _, HN.out.1, HN.out.2, Nat.le_refl _, (HT.out.next (Turned.of_below (Below.selfN _ _))).next (Turned.set _ _ _ rfl)⟩
  ·have hrQ : r1 = Q := by
    rw [← hq1]
    cases r1 with
    | nil => rfl
    | cons c t => rw [List.dropWhile_cons_of_neg (fun h => hin ⟨c, t, rfl, h⟩)]
   have ha1 : a1 = s.size - Q.length := by rw [← hrQ]; exact hat1.pos
   have HT1 := Lib.hid (HT0.out.next hT)
   have hne : w.heap.size ≠ b := by omega
   have HBX := Lib.hid (show Box5 wr w.heap.size 30 (.int .i64 0) (.int .i64 0) (.int .i64 0) (.string ⟨#[]⟩) (.slice none 0 0) from (hT.block _ HB5.out.lt hne).trans HB5.out)
   have HPE := Lib.hid (show PB wr b s (s.size - Q.length) from by rw [← ha1]; exact hp1)
   have hX : s.extract a a1 = ⟨T.toArray⟩ := by rw [ha1]; exact HX.out
   have ha2 : a ≤ a1 := by omega
   have ha3 : a1 ≤ s.size := by omega
   have hexit : r1 = [] ∨ ∃ c t, r1 = c :: t ∧ Rd.mark c = false := by
    cases r1 with
    | nil => exact .inl rfl
    | cons c t =>
     refine .inr ⟨c, t, rfl, ?_⟩
     cases hc : Rd.mark c with
     | false => rfl
     | true => exact (hin ⟨c, t, rfl, hc⟩).elim
   have hat2 := hat1
   clear hin hrQ hq1 hT hp1 ha1 hat1
   rcases hexit with h | ⟨c, t, h, hc⟩
   case' inl =>
    subst h
    have hlt3 : decide (a1 < s.size) = false := by simp at hla ⊢; omega
    clear hat2 hle hla
    go_wp2_with fail
    go_quiet (fail)
    go_wp2_with fail
    go_quiet (fail)
   case' inr =>
    subst h
    obtain ⟨hlt, hget⟩ := hat2.get
    obtain ⟨k, hk⟩ : ∃ k, Lib.indexByte Rd.wordsL c = k := ⟨_, rfl⟩
    have hk0 : k < 0 := by
     rw [← hk]
     have := (idx_mark c)
     rw [hc] at this
     simpa using this
    have HI := Lib.hid (fun n => idx_quiet c k hk wr n)
    have hlt3 : decide (a1 < s.size) = true := by simp; omega
    clear hat2 hle hla hk hc
    go_wp2_with fail
    go_quiet ((go_at_call 16; exact HI.out _))
    go_wp2_with fail
    go_quiet (fail)
   all_goals
    have hlt5 : (decide (40 < T.length) = true ∧ decide ((40 : Int) < (T.length : Int)) = true) ∨ (decide (40 < T.length) = false ∧ decide ((40 : Int) < (T.length : Int)) = false) := by
     by_cases h : 40 < T.length
     ·exact .inl ⟨by simp [h], by simp; omega⟩
     ·exact .inr ⟨by simp [h], by simp; omega⟩
    cases z
    case' true =>
     go_wp2_with (first | (go_at_call 34; go_loud (refine (HPA.out _).mono ?_; rintro e' w2 ⟨rfl, hb2⟩; have hbx : Box5 w2 w.heap.size 30 (.int .i64 0) (.int .i64 0) (.int .i64 0) (.string ⟨#[]⟩) (.slice none 0 0) := (hb2.block _ HBX.out.lt).trans HBX.out; have HB2 := Lib.hid (show Below wr.heap.size wr w2 from Below.next (Below.selfN wr _) hb2); obtain ⟨q0, q1, q2, q3, q4⟩ := hbx.cells; obtain ⟨z0, z2, z3, z4, z5⟩ := hbx.free; have hgl := hbx.lt; have HBX2 := Lib.hid hbx; clear hb2 hbx)))
     have HR5 := Lib.hid (HBX2.out.set (.int .i64 0) (.int .i64 n) (.int .i64 d) (.string ⟨#[]⟩) (.slice none 0 0))
     obtain ⟨r0, r1, r2, r3, r4⟩ := HR5.out.cells
     refine bodyPost_ret (v := .agg #[.int .i64 0, .int .i64 n, .int .i64 d, .string ⟨#[]⟩, .slice none 0 0]) (by simp [results, Tryd.results17, go_sem, r0, r1, r2, r3, r4]) rfl ?_
     rw [HR.out, if_pos trivial]
     exact pdat_leaf 0 n d ⟨#[]⟩ HT1.out HB2.out HPE.out hne (by omega) (by omega) (by omega) (by decide)
    case' false =>
     rcases hlt5 with ⟨h5, h6⟩ | ⟨h5, h6⟩
     ·go_wp2_with (first | (go_at_call 34; go_loud (refine (HPA.out _).mono ?_; rintro e' w2 ⟨rfl, hb2⟩; have hbx : Box5 w2 w.heap.size 30 (.int .i64 0) (.int .i64 0) (.int .i64 0) (.string ⟨#[]⟩) (.slice none 0 0) := (hb2.block _ HBX.out.lt).trans HBX.out; have HB2 := Lib.hid (show Below wr.heap.size wr w2 from Below.next (Below.selfN wr _) hb2); obtain ⟨q0, q1, q2, q3, q4⟩ := hbx.cells; obtain ⟨z0, z2, z3, z4, z5⟩ := hbx.free; have hgl := hbx.lt; have HBX2 := Lib.hid hbx; clear hb2 hbx)))
      refine ⟨rfl, ?_⟩
      rw [HR.out, if_neg (by decide), if_pos (by simpa using h5)]
      exact ⟨by rw [← HA.out.pos]; rfl, HT1.out.next (Turned.of_below HB2.out)⟩
     ·go_wp2_with (first | (go_at_call 34; go_loud (refine (HPA.out _).mono ?_; rintro e' w2 ⟨rfl, hb2⟩; have hbx : Box5 w2 w.heap.size 30 (.int .i64 0) (.int .i64 0) (.int .i64 0) (.string ⟨#[]⟩) (.slice none 0 0) := (hb2.block _ HBX.out.lt).trans HBX.out; have HB2 := Lib.hid (show Below wr.heap.size wr w2 from Below.next (Below.selfN wr _) hb2); obtain ⟨q0, q1, q2, q3, q4⟩ := hbx.cells; obtain ⟨z0, z2, z3, z4, z5⟩ := hbx.free; have hgl := hbx.lt; have HBX2 := Lib.hid hbx; clear hb2 hbx)))
      have HR5 := Lib.hid (HBX2.out.set (.int .i64 2) (.int .i64 0) (.int .i64 0) (.string ⟨T.toArray⟩) (.slice none 0 0))
      obtain ⟨r0, r1, r2, r3, r4⟩ := HR5.out.cells
      refine bodyPost_ret (v := .agg #[.int .i64 2, .int .i64 0, .int .i64 0, .string ⟨T.toArray⟩, .slice none 0 0]) (by simp [results, Tryd.results17, go_sem, r0, r1, r2, r3, r4]) rfl ?_
      rw [HR.out, if_neg (by decide), if_neg (by simpa using h5)]
      exact pdat_leaf 2 0 0 ⟨T.toArray⟩ HT1.out HB2.out HPE.out hne (by omega) (by omega) (by omega) (by simp [ByteArray.size]; omega)
end
section
open Go Go.RowKit
theorem strByte_of {c : UInt8} (h : Dat.strByte c = true) : 32 ≤ c.toNat ∧ c.toNat ≤ 126 ∧ c.toNat ≠ 34 ∧ c.toNat ≠ 92 := by
 simp only [Dat.strByte, Bool.and_eq_true, decide_eq_true_eq] at h
 exact ⟨h.1, h.2.1, h.2.2.1, h.2.2.2⟩
theorem strByte_not {c : UInt8} (h : Dat.strByte c = false) (h34 : c ≠ 34) : c.toNat < 32 ∨ 126 < c.toNat ∨ c.toNat = 92 := by
 have h3 : c.toNat ≠ 34 := fun e => h34 (UInt8.toNat_inj.1 e)
 apply Decidable.byContradiction
 intro hc
 have : Dat.strByte c = true := by
  simp only [Dat.strByte, Bool.and_eq_true, decide_eq_true_eq]
  exact ⟨by omega, by omega, h3, by omega⟩
 rw [h] at this; cases this
def Rd.strQ (T Q : List UInt8) : Rd.Res Dat :=
 match Q with
 | [] => .bad []
 | b :: t => if b = 34 then .ok (.mk 3 0 0 ⟨T.toArray⟩ []) t else .bad (b :: t)
theorem Rd.str_eq (r : List UInt8) : Rd.str r = Rd.strQ (r.takeWhile Dat.strByte) (r.dropWhile Dat.strByte) := by unfold Rd.str Rd.strQ; rfl
theorem ptext_any (b : Nat) (s : ByteArray) (a : Nat) (r : List UInt8) (w : World) (hp : PB w b s a) (hat0 : Rd.At s a (34 :: r)) (hs : s.size ≤ 65536) :
  Calls Tryd.prog 18 #[.pointer (some ⟨b, 0, none⟩)] w (PDat b s (Rd.str r) w) := by
 obtain ⟨T, hT⟩ : ∃ T, r.takeWhile Dat.strByte = T := ⟨_, rfl⟩
 obtain ⟨Q, hQ⟩ : ∃ Q, r.dropWhile Dat.strByte = Q := ⟨_, rfl⟩
 have htq : r = T ++ Q := by rw [← hT, ← hQ]; exact (List.takeWhile_append_dropWhile).symm
 have hat := hat0.cons
 have HR := Lib.hid (show Rd.str r = Rd.strQ T Q from by rw [Rd.str_eq, hT, hQ])
 have hlT : T.length ≤ s.size := by have := hat.1; rw [htq, List.length_append] at this; omega
 have HX := Lib.hid (show s.extract (a + 1) (s.size - Q.length) = ⟨T.toArray⟩ from extract_mid (htq ▸ hat))
 have HQ := Lib.hid hQ
 have HA := Lib.hid hat
 have hal : a < s.size := by have := hat0.1; simp only [List.length_cons] at this; omega
 have hab : a + 1 + Q.length ≤ s.size := by have := hat.1; rw [htq, List.length_append] at this; omega
 have HP0 := Lib.hid hp
 have hb := hp.lt
 have HADD := Lib.hid (show ((a : Int) + 1) = ((a + 1 : Nat) : Int) from by omega)
 clear hT hQ htq hp hat hat0
 obtain ⟨W0, hW0⟩ : ∃ W0, w.alloc (.cells #[.int .i64 0, .int .i64 0, .int .i64 0, .string ⟨#[]⟩, .slice none 0 0] 30) = W0 := ⟨_, rfl⟩
 have HW0 := Lib.hid hW0
 have HB5 := Lib.hid (show Box5 W0 w.heap.size 30 (.int .i64 0) (.int .i64 0) (.int .i64 0) (.string ⟨#[]⟩) (.slice none 0 0) from by rw [← hW0]; exact Box5.new w _ _ _ _ _ _)
 have HP1 := Lib.hid (show PB W0 b s a from by rw [← hW0]; exact BoxL.alloc HP0.out _)
 have HT0 := Lib.hid (show Turned (fun c => c = b) w W0 from by rw [← hW0]; exact Turned.of_below (Below.one _ _))
 have c1 := HP1.out.cell 1 rfl
 have y1 := HP1.out.free 1
 have hl1 := HP1.out.lt
 clear hW0
 go_enter Tryd.func18, Tryd.ntmps18
 go_upto_region 1 with fail
 rw [HW0.out]
 go_upto_region 2 with fail
 rw [HADD.out]
 have hP2 : PB (W0.setCell ⟨b, 1, none⟩ (.int .i64 ((a + 1 : Nat) : Int))) b s (a + 1) := PB.set HP1.out _
 have hT2 : Turned (fun c => c = b) W0 (W0.setCell ⟨b, 1, none⟩ (.int .i64 ((a + 1 : Nat) : Int))) := Turned.set _ _ _ rfl
 generalize W0.setCell ⟨b, 1, none⟩ (.int .i64 ((a + 1 : Nat) : Int)) = W1 at hP2 hT2 ⊢
 have HP2 := Lib.hid hP2
 have HT1 := Lib.hid (HT0.out.next hT2)
 have hne : w.heap.size ≠ b := by omega
 have HB6 := Lib.hid (show Box5 W1 w.heap.size 30 (.int .i64 0) (.int .i64 0) (.int .i64 0) (.string ⟨#[]⟩) (.slice none 0 0) from (hT2.block _ HB5.out.lt hne).trans HB5.out)
 have d1 := hP2.cell 1 rfl
 have e1 := hP2.lt
 clear hP2 hT2 c1 y1 hl1
 go_wp2_with fail
 clear d1 e1
 go_loopg [] r.length (fun g wr => ∃ a' r', PB wr b s a' ∧ Rd.At s a' r' ∧ r'.dropWhile Dat.strByte = Q ∧ r'.length ≤ g ∧ Turned (fun c => c = b) W1 wr)
 case atStart => exact ⟨a + 1, r, HP2.out, HA.out, HQ.out, Nat.le_refl _, Turned.refl _ _⟩
 case round =>
  obtain ⟨a1, r1, hp1, hat1, hq1, hle, hT⟩ := hrel
  have c0 := hp1.cell 0 rfl
  have d1 := hp1.cell 1 rfl
  have z1 := hp1.free 1
  have dl := hp1.lt
  have HP3 := Lib.hid hp1
  have HT := Lib.hid hT
  have hla := hat1.1
  by_cases hin : ∃ c t, r1 = c :: t ∧ Dat.strByte c = true
  ·obtain ⟨c, t, rfl, hc⟩ := hin
   obtain ⟨hlt, hget⟩ := hat1.get
   obtain ⟨k1, k2, k3, k4⟩ := strByte_of hc
   have m1 : ((c.toNat : Int) != 34) = true := by simp; omega
   have m2 : decide (c.toNat < 32) = false := by simp; omega
   have m3 : decide (126 < c.toNat) = false := by simp; omega
   have m4 : ((c.toNat : Int) == 92) = false := by simp; omega
   have HN := Lib.hid (show Rd.At s (a1 + 1) t ∧ t.dropWhile Dat.strByte = Q from ⟨hat1.cons, by rw [← hq1, List.dropWhile_cons_of_pos hc]⟩)
   have hlt3 : decide (a1 < s.size) = true := by simp; omega
   have HADD := Lib.hid (show ((a1 : Int) + 1) = ((a1 + 1 : Nat) : Int) from by omega)
   simp only [List.length_cons] at hle hla
   clear hp1 hat1 hq1 hT
   go_wp2_with fail
   go_quiet (fail)
   go_wp2_with fail
   go_quiet (fail)
   go_wp2_with fail
   rw [HADD.out]
   go_roundg t.length
   case measure => omega
   case rel => exact ⟨a1 + 1, t, PB.set (BoxL.keep HP3.out (Below.selfN _ _)) _, HN.out.1, HN.out.2, Nat.le_refl _, (HT.out.next (Turned.of_below (Below.selfN _ _))).next (Turned.set _ _ _ rfl)⟩
  ·have hrQ : r1 = Q := by
    rw [← hq1]
    cases r1 with
    | nil => rfl
    | cons c t => rw [List.dropWhile_cons_of_neg (fun h => hin ⟨c, t, rfl, h⟩)]
   have HTW := Lib.hid (HT1.out.next hT)
   have HBX := Lib.hid (show Box5 wr w.heap.size 30 (.int .i64 0) (.int .i64 0) (.int .i64 0) (.string ⟨#[]⟩) (.slice none 0 0) from (hT.block _ HB6.out.lt hne).trans HB6.out)
   have hpos := hat1.pos
   rw [hrQ] at hpos
   subst hrQ
   cases hr1 : r1 with
   | nil =>
    subst hr1
    have ha1 : a1 = s.size := by simpa using hpos
    have hlt3 : decide (a1 < s.size) = false := by simp; omega
    have heq : ((a1 : Int) == (s.size : Int)) = true := by simp; omega
    have HE := Lib.hid ha1
    clear hp1 hat1 hq1 hT hin hpos ha1 hle hla
    go_wp2_with fail
    go_quiet (fail)
    go_wp2_with fail
    go_quiet (fail)
    go_wp2_with fail
    refine ⟨rfl, ?_⟩
    rw [HR.out]
    exact ⟨by rw [HE.out]; rfl, HTW.out.next (Turned.of_below (Below.selfN _ _))⟩
   | cons c t =>
    subst hr1
    obtain ⟨hlt, hget⟩ := hat1.get
    have hcf : Dat.strByte c = false := by
     cases h : Dat.strByte c with
     | false => rfl
     | true => exact (hin ⟨c, t, rfl, h⟩).elim
    have hlt3 : decide (a1 < s.size) = true := by simp; omega
    by_cases h34 : c = 34
    ·have m1 : ((c.toNat : Int) != 34) = false := by subst h34; rfl
     have heq : ((a1 : Int) == (s.size : Int)) = false := by simp; omega
     have HX1 := Lib.hid (show s.extract (a + 1) a1 = ⟨T.toArray⟩ from by rw [hpos]; exact HX.out)
     have hX1 := HX1.out
     simp only [List.length_cons] at hla hpos hab
     have hb1 : a + 1 ≤ a1 := by omega
     have hb2 : a1 ≤ s.size := by omega
     have HPT := Lib.hid (show a1 + 1 = s.size - t.length from by omega)
     have HADD := Lib.hid (show ((a1 : Int) + 1) = ((a1 + 1 : Nat) : Int) from by omega)
     have HE := Lib.hid h34
     clear hp1 hat1 hq1 hT hin hpos hle hcf h34
     go_wp2_with fail
     go_quiet (fail)
     go_wp2_with fail
     go_quiet (fail)
     go_upto_region 11 with fail
     rw [HADD.out]
     rename_i n1 K1 a1'
     have hp5 : PB ((wr.drewN (n1 + nq)).setCell ⟨b, 1, none⟩ (.int .i64 ((a1 + 1 : Nat) : Int))) b s (a1 + 1) := PB.set (BoxL.keep HP3.out (Below.selfN _ _)) _
     have ht5 : Turned (fun c => c = b) wr ((wr.drewN (n1 + nq)).setCell ⟨b, 1, none⟩ (.int .i64 ((a1 + 1 : Nat) : Int))) := (Turned.of_below (Below.selfN _ _)).next (Turned.set _ _ _ rfl)
     generalize (wr.drewN (n1 + nq)).setCell ⟨b, 1, none⟩ (.int .i64 ((a1 + 1 : Nat) : Int)) = W5 at hp5 ht5 ⊢
     have HP5 := Lib.hid hp5
     have HT5 := Lib.hid (HTW.out.next ht5)
     have HB7 := Lib.hid (show Box5 W5 w.heap.size 30 (.int .i64 0) (.int .i64 0) (.int .i64 0) (.string ⟨#[]⟩) (.slice none 0 0) from (ht5.block _ HBX.out.lt hne).trans HBX.out)
     have f0 := hp5.cell 0 rfl
     have f1 := hp5.cell 1 rfl
     have fl := hp5.lt
     clear hp5 ht5 c0 d1 z1 dl
     refine wp_region_quiet_class (Below W5.heap.size W5) 12 (by kernel_rfl) (by kernel_rfl) ((Below.refl W5.heap.size W5).drew) ?_
     intro T' _ W HW HW2
     have g0 : ∀ t, (W t).cell? _ = _ := fun t => ((HW t).cell (p := ⟨b, 0, none⟩) fl).trans f0
     have g1 : ∀ t, (W t).cell? _ = _ := fun t => ((HW t).cell (p := ⟨b, 1, none⟩) fl).trans f1
     have HWH := Lib.hid HW
     clear HW HW2 f0 f1
     simp only [List.take_succ_cons, List.take_zero, List.drop_succ_cons, List.drop_zero]
     repeat (go_big_quiet_step (fail))
     refine wpQuiet_nil ?_
     intro t
     have hbx : Box5 (W t) w.heap.size 30 (.int .i64 0) (.int .i64 0) (.int .i64 0) (.string ⟨#[]⟩) (.slice none 0 0) := ((HWH.out t).block _ HB7.out.lt).trans HB7.out
     obtain ⟨q0, q1, q2, q3, q4⟩ := hbx.cells
     obtain ⟨z0, z2, z3, z4, z5⟩ := hbx.free
     have hgl := hbx.lt
     have HB8 := Lib.hid hbx
     clear hbx
     go_wp2_with fail
     have HR5 := Lib.hid (HB8.out.set (.int .i64 3) (.int .i64 0) (.int .i64 0) (.string ⟨T.toArray⟩) (.slice none 0 0))
     obtain ⟨r0, r1, r2, r3, r4⟩ := HR5.out.cells
     refine bodyPost_ret (v := .agg #[.int .i64 3, .int .i64 0, .int .i64 0, .string ⟨T.toArray⟩, .slice none 0 0]) (by simp [results, Tryd.results18, go_sem, r0, r1, r2, r3, r4]) rfl ?_
     rw [HR.out, HE.out]
     exact pdat_leaf 3 0 0 ⟨T.toArray⟩ HT5.out (HWH.out t) (by rw [← HPT.out]; exact HP5.out) hne (by omega) (by omega) (by omega) (by simp [ByteArray.size]; omega)
    ·have m1 : ((c.toNat : Int) != 34) = true := (u8_ne c 34).trans (by rw [decide_eq_false h34]; rfl)
     have hbd := strByte_not hcf h34
     have HE := Lib.hid h34
     have HEP := Lib.hid hpos
     clear hp1 hat1 hq1 hT hin hpos hle hcf h34 hla
     rcases hbd with h | h | h
     case' inl =>
      have m2 : decide (c.toNat < 32) = true := by simp; omega
     case' inr.inl =>
      have m2 : decide (c.toNat < 32) = false := by simp; omega
      have m3 : decide (126 < c.toNat) = true := by simp; omega
     case' inr.inr =>
      have m2 : decide (c.toNat < 32) = false := by simp; omega
      have m3 : decide (126 < c.toNat) = false := by simp; omega
      have m4 : ((c.toNat : Int) == 92) = true := by simp; omega
     all_goals
      go_wp2_with fail
      go_quiet (fail)
      go_wp2_with fail
      go_quiet (fail)
      go_wp2_with fail
      refine ⟨rfl, ?_⟩
      rw [HR.out]
      unfold Rd.strQ
      simp only
      rw [if_neg HE.out]
      exact ⟨by rw [← HEP.out]; rfl, HTW.out.next (Turned.of_below (Below.selfN _ _))⟩
end
section
open Go Go.RowKit
namespace Rd
open Dat
def pre (l0 : List Dat) (res : Res (List Dat × Dat)) : Res (List Dat × Dat) := res.map fun p => (l0 ++ p.1, p.2)
theorem pre_nil (res : Res (List Dat × Dat)) : pre [] res = res := by cases res <;> rfl
theorem S_nil {p a : Bool} {r : List UInt8} (h : skip false r = []) : S p a r = .bad [] := by rw [S_eq]; unfold seqF; rw [h]
theorem S_close {p a : Bool} {r t : List UInt8} (h : skip false r = 41 :: t) : S p a r = .ok ([], null) t := by rw [S_eq]; unfold seqF; rw [h]; simp only; unfold seqH; rw [if_pos rfl]
theorem S_item {p a : Bool} {r t : List UInt8} {c : UInt8} (h : skip false r = c :: t) (h41 : c ≠ 41) (hp : ¬ (c = 46 ∧ p = true ∧ a = true)) : S p a r = oneF D (S p true) (c :: t) := by rw [S_eq]; unfold seqF; rw [h]; simp only; unfold seqH; rw [if_neg h41, if_neg hp]
theorem S_point {r t : List UInt8} (h : skip false r = 46 :: t) : S true true r = pointF D t := by rw [S_eq]; unfold seqF; rw [h]; simp only; unfold seqH; rw [if_neg (by decide), if_pos ⟨rfl, rfl, rfl⟩]
theorem pre_ok {l0 : List Dat} {p : Bool} {r q : List UInt8} {x : Dat} (h : D r = .ok x q) : pre l0 (oneF D (S p true) r) = pre (l0 ++ [x]) (S p true q) := by
 unfold oneF
 rw [h]
 simp only
 unfold pre
 cases S p true q with
 | ok y q' => simp [Res.map]
 | bad q' => rfl
theorem pre_bad {l0 : List Dat} {p : Bool} {r q : List UInt8} (h : D r = .bad q) : pre l0 (oneF D (S p true) r) = .bad q := by
 unfold oneF
 rw [h]
 rfl
theorem S_any (a : Bool) (r : List UInt8) : S false a r = S false true r := by
 rw [S_eq, S_eq false true]
 unfold seqF
 split
 ·rfl
 ·unfold seqH
  simp
end Rd
def PDatOk (n : Nat) : Prop := ∀ (b : Nat) (s : ByteArray) (a : Nat) (r : List UInt8) (w : World), r.length < n → PB w b s a → Rd.At s a r → s.size ≤ 65536 →
 Calls Tryd.prog 9 #[.pointer (some ⟨b, 0, none⟩)] w (PDat b s (Rd.D r) w)
theorem phash_any (n : Nat) (H : PDatOk n) (b : Nat) (s : ByteArray) (a : Nat) (t0 : List UInt8) (w : World) (hn : t0.length ≤ n) (hp : PB w b s a) (hat0 : Rd.At s a (35 :: t0)) (hs : s.size ≤ 65536) :
  Calls Tryd.prog 20 #[.pointer (some ⟨b, 0, none⟩)] w (PDat b s (Rd.hashF Rd.S t0) w) := by
 have hat := hat0.cons
 have hal : a < s.size := by have := hat0.1; simp only [List.length_cons] at this; omega
 have hpos := hat.pos
 have HP0 := Lib.hid hp
 have hb := hp.lt
 have HADD := Lib.hid (show ((a : Int) + 1) = ((a + 1 : Nat) : Int) from by omega)
 have HADD2 := Lib.hid (show (((a + 1 : Nat) : Int) + 1) = ((a + 2 : Nat) : Int) from by omega)
 clear hp hat0
 obtain ⟨W0, hW0⟩ : ∃ W0, w.alloc (.cells #[.int .i64 0, .int .i64 0, .int .i64 0, .string ⟨#[]⟩, .slice none 0 0] 30) = W0 := ⟨_, rfl⟩
 have HW0 := Lib.hid hW0
 have HB5 := Lib.hid (show Box5 W0 w.heap.size 30 (.int .i64 0) (.int .i64 0) (.int .i64 0) (.string ⟨#[]⟩) (.slice none 0 0) from by rw [← hW0]; exact Box5.new w _ _ _ _ _ _)
 have HP1 := Lib.hid (show PB W0 b s a from by rw [← hW0]; exact BoxL.alloc HP0.out _)
 have HT0 := Lib.hid (show Turned (fun c => c = b) w W0 from by rw [← hW0]; exact Turned.of_below (Below.one _ _))
 have c1 := HP1.out.cell 1 rfl
 have y1 := HP1.out.free 1
 have hl1 := HP1.out.lt
 clear hW0
 go_enter Tryd.func20, Tryd.ntmps20
 go_upto_region 1 with fail
 rw [HW0.out]
 go_upto_region 2 with fail
 rw [HADD.out]
 have hP2 : PB (W0.setCell ⟨b, 1, none⟩ (.int .i64 ((a + 1 : Nat) : Int))) b s (a + 1) := PB.set HP1.out _
 have hT2 : Turned (fun c => c = b) W0 (W0.setCell ⟨b, 1, none⟩ (.int .i64 ((a + 1 : Nat) : Int))) := Turned.set _ _ _ rfl
 generalize W0.setCell ⟨b, 1, none⟩ (.int .i64 ((a + 1 : Nat) : Int)) = W1 at hP2 hT2 ⊢
 have HP2 := Lib.hid hP2
 have HT1 := Lib.hid (HT0.out.next hT2)
 have hne : w.heap.size ≠ b := by omega
 have HB6 := Lib.hid (show Box5 W1 w.heap.size 30 (.int .i64 0) (.int .i64 0) (.int .i64 0) (.string ⟨#[]⟩) (.slice none 0 0) from (hT2.block _ HB5.out.lt hne).trans HB5.out)
 have d0 := hP2.cell 0 rfl
 have d1 := hP2.cell 1 rfl
 have d2 := hP2.free 1
 have e1 := hP2.lt
 clear hP2 hT2 c1 y1 hl1
 cases t0 with
 | nil =>
  have ha1 : a + 1 = s.size := by simpa using hpos
  have heq : ((a : Int) + 1 == (s.size : Int)) = true := by simp; omega
  have HE := Lib.hid ha1
  clear hat hpos ha1
  go_quiet (fail)
  go_wp2_with fail
  exact ⟨rfl, by rw [HADD.out, HE.out]; rfl, HT1.out.next (Turned.of_below (Below.selfN _ _))⟩
 | cons c t =>
  obtain ⟨hlt, hget⟩ := hat.get
  have heq : ((a : Int) + 1 == (s.size : Int)) = false := by simp; omega
  have q1 : ((c.toNat : Int) == 116) = decide (c = 116) := u8_eq c 116
  have q2 : ((c.toNat : Int) == 102) = decide (c = 102) := u8_eq c 102
  have q3 : ((c.toNat : Int) == 118) = decide (c = 118) := u8_eq c 118
  have q4 : ((c.toNat : Int) == 40) = decide (c = 40) := u8_eq c 40
  simp only [List.length_cons] at hpos hn
  have hal2 : a + 2 ≤ s.size := by have := hat.1; simp only [List.length_cons] at this; omega
  have HPT := Lib.hid (show a + 2 = s.size - t.length from by have := hat.1; simp only [List.length_cons] at this; omega)
  have HPS := Lib.hid (show a + 1 = s.size - (c :: t).length from hat.pos)
  have htl : t.length ≤ 65536 := by have := hat.1; simp only [List.length_cons] at this; omega
  have HAT := Lib.hid hat.cons
  clear hat hpos
  go_quiet (fail)
  go_upto_region 5 with fail
  rw [show ((a : Int) + 1 + 1) = ((a + 2 : Nat) : Int) from by omega]
  have hP3 : PB ((W1.drewN nq).setCell ⟨b, 1, none⟩ (.int .i64 ((a + 2 : Nat) : Int))) b s (a + 2) := PB.set (BoxL.keep HP2.out (Below.selfN _ _)) _
  have hT3 : Turned (fun c => c = b) W1 ((W1.drewN nq).setCell ⟨b, 1, none⟩ (.int .i64 ((a + 2 : Nat) : Int))) := (Turned.of_below (Below.selfN _ _)).next (Turned.set _ _ _ rfl)
  generalize (W1.drewN nq).setCell ⟨b, 1, none⟩ (.int .i64 ((a + 2 : Nat) : Int)) = W2 at hP3 hT3 ⊢
  have HP3 := Lib.hid hP3
  have HT3 := Lib.hid (HT1.out.next hT3)
  have HB7 := Lib.hid (show Box5 W2 w.heap.size 30 (.int .i64 0) (.int .i64 0) (.int .i64 0) (.string ⟨#[]⟩) (.slice none 0 0) from (hT3.block _ HB6.out.lt hne).trans HB6.out)
  have f0 := hP3.cell 0 rfl
  have f1 := hP3.cell 1 rfl
  have fl := hP3.lt
  obtain ⟨p0, p1, p2, p3, p4⟩ := HB7.out.cells
  obtain ⟨z0, z1, z2, z3, z4⟩ := HB7.out.free
  have pl := HB7.out.lt
  have hKW := hT3.size
  clear hP3 hT3 d0 d1 d2 e1
  have hww : IntKind.i64.wrap ((a : Int) + 2 - 1) = ((a + 1 : Nat) : Int) := by simp [IntKind.wrap, IntKind.bits, IntKind.signed]; omega
  by_cases c1 : c = 116
  ·rw [decide_eq_true c1] at q1
   have HE := Lib.hid (show Rd.hashF Rd.S (c :: t) = .ok (.mk 1 1 0 ⟨#[]⟩ []) t from by subst c1; rfl)
   clear c1
   go_quiet (fail)
   go_wp2_with fail
   have HR5 := Lib.hid ((show Box5 (W2.drewN nq) w.heap.size 30 (.int .i64 0) (.int .i64 0) (.int .i64 0) (.string ⟨#[]⟩) (.slice none 0 0) from HB7.out).set (.int .i64 1) (.int .i64 1) (.int .i64 0) (.string ⟨#[]⟩) (.slice none 0 0))
   obtain ⟨r0, r1, r2, r3, r4⟩ := HR5.out.cells
   refine bodyPost_ret (v := .agg #[.int .i64 1, .int .i64 1, .int .i64 0, .string ⟨#[]⟩, .slice none 0 0]) (by simp [results, Tryd.results20, go_sem, r0, r1, r2, r3, r4]) rfl ?_
   rw [HE.out]
   exact pdat_leaf 1 1 0 ⟨#[]⟩ HT3.out (Below.selfN W2 _) (by rw [← HPT.out]; exact HP3.out) hne (by omega) (by omega) (by omega) (by decide)
  rw [decide_eq_false c1] at q1
  by_cases c2 : c = 102
  ·rw [decide_eq_true c2] at q2
   have HE := Lib.hid (show Rd.hashF Rd.S (c :: t) = .ok (.mk 1 0 0 ⟨#[]⟩ []) t from by subst c2; rfl)
   clear c1 c2
   go_quiet (fail)
   go_wp2_with fail
   have HR5 := Lib.hid ((show Box5 (W2.drewN nq) w.heap.size 30 (.int .i64 0) (.int .i64 0) (.int .i64 0) (.string ⟨#[]⟩) (.slice none 0 0) from HB7.out).set (.int .i64 1) (.int .i64 0) (.int .i64 0) (.string ⟨#[]⟩) (.slice none 0 0))
   obtain ⟨r0, r1, r2, r3, r4⟩ := HR5.out.cells
   refine bodyPost_ret (v := .agg #[.int .i64 1, .int .i64 0, .int .i64 0, .string ⟨#[]⟩, .slice none 0 0]) (by simp [results, Tryd.results20, go_sem, r0, r1, r2, r3, r4]) rfl ?_
   rw [HE.out]
   exact pdat_leaf 1 0 0 ⟨#[]⟩ HT3.out (Below.selfN W2 _) (by rw [← HPT.out]; exact HP3.out) hne (by omega) (by omega) (by omega) (by decide)
  rw [decide_eq_false c2] at q2
  by_cases c3 : c = 118
  ·rw [decide_eq_true c3] at q3
   have HE := Lib.hid (show Rd.hashF Rd.S (c :: t) = .ok (.mk 5 0 0 ⟨#[]⟩ []) t from by subst c3; rfl)
   clear c1 c2 c3
   go_quiet (fail)
   go_wp2_with fail
   have HR5 := Lib.hid ((show Box5 (W2.drewN nq) w.heap.size 30 (.int .i64 0) (.int .i64 0) (.int .i64 0) (.string ⟨#[]⟩) (.slice none 0 0) from HB7.out).set (.int .i64 5) (.int .i64 0) (.int .i64 0) (.string ⟨#[]⟩) (.slice none 0 0))
   obtain ⟨r0, r1, r2, r3, r4⟩ := HR5.out.cells
   refine bodyPost_ret (v := .agg #[.int .i64 5, .int .i64 0, .int .i64 0, .string ⟨#[]⟩, .slice none 0 0]) (by simp [results, Tryd.results20, go_sem, r0, r1, r2, r3, r4]) rfl ?_
   rw [HE.out]
   exact pdat_leaf 5 0 0 ⟨#[]⟩ HT3.out (Below.selfN W2 _) (by rw [← HPT.out]; exact HP3.out) hne (by omega) (by omega) (by omega) (by decide)
  rw [decide_eq_false c3] at q3
  by_cases c4 : c = 40
  ·rw [decide_eq_true c4] at q4
   have HE := Lib.hid (show Rd.hashF Rd.S (c :: t) = (Rd.S false false t).map (fun p => .mk 7 0 0 ⟨#[]⟩ p.1) from by subst c4; rfl)
   clear c1 c2 c3 c4
   have HK := Lib.hid (show ∃ (a' : Nat) (r' : List UInt8) (l0 : List Dat), PB W2 b s a' ∧ Rd.At s a' r' ∧ GrownH W2 (w.heap.size + 1) (w.heap.size + 1) l0 (.slice none 0 0) ∧ Rd.S false false t = Rd.pre l0 (Rd.S false true r') ∧ r'.length ≤ t.length ∧ l0.length + r'.length ≤ t.length ∧ Turned (fun c => c = b) w W2 ∧ Box5 W2 w.heap.size 30 (.int .i64 0) (.int .i64 0) (.int .i64 0) (.string ⟨#[]⟩) (.slice none 0 0) from
    ⟨a + 2, t, [], HP3.out, HAT.out, GrownH.nil _ (Nat.le_refl _), by rw [Rd.pre_nil, Rd.S_any], Nat.le_refl _, by simp, HT3.out, HB7.out⟩)
   go_quiet (fail)
   go_wp2_with fail
   go_loopg [3] t.length (fun g lv wr => Hid (∃ (a' : Nat) (r' : List UInt8) (l0 : List Dat), PB wr b s a' ∧ Rd.At s a' r' ∧ GrownH wr (w.heap.size + 1) (w.heap.size + 1) l0 lv ∧ Rd.S false false t = Rd.pre l0 (Rd.S false true r') ∧ r'.length ≤ g ∧ l0.length + r'.length ≤ t.length ∧ Turned (fun c => c = b) w wr ∧ Box5 wr w.heap.size 30 (.int .i64 0) (.int .i64 0) (.int .i64 0) (.string ⟨#[]⟩) (.slice none 0 0)))
   case atStart =>
    obtain ⟨a', r', l0, k1, k2, k3, k4, k5, k6, k7, k8⟩ := HK.out
    exact Lib.hid ⟨a', r', l0, BoxL.keep k1 (Below.selfN _ _), k2, k3.below (Below.selfN _ _), k4, k5, k6, k7.next (Turned.of_below (Below.selfN _ _)), k8⟩
   case round =>
    obtain ⟨a1, r1, l0, hp1, hat1, hg1, hS, hle, hlen, hT, hbx⟩ := hrel.out
    clear hrel HK
    have hC := pclosed_any b s a1 r1 wr hp1 hat1 hs
    have hq := hat1.suf (Rd.skip_suf r1 false)
    have hql := Rd.skip_le r1 false
    obtain ⟨o3, len3, cap3, hv3, hl3⟩ := hg1.form
    subst hv3
    clear hl3
    cases hsk : Rd.skip false r1 with
    | nil =>
     have HC := Lib.hid (hC.mono fun e w' h => show e = .panicked (stopAt s.size) ∧ Turned (fun c => c = b) wr w' from by unfold PClosed at h; rw [hsk] at h; exact h)
     have HF := Lib.hid (show Rd.hashF Rd.S (c :: t) = .bad [] from by rw [HE.out, hS, Rd.S_nil hsk]; rfl)
     have HTW := Lib.hid hT
     clear hC hq hql hp1 hat1 hg1 hS hT hbx hsk f0 f1 p0 p1 p2 p3 p4 z0 z1 z2 z3 z4 fl pl
     go_wp2_with (first | (go_at_call 36; refine HC.out.mono ?_; rintro e' w1 ⟨rfl, ht1⟩))
     exact ⟨rfl, by rw [HF.out]; exact ⟨rfl, HTW.out.next ht1⟩⟩
    | cons c1 t1 =>
     rw [hsk] at hq hql
     by_cases h41 : c1 = 41
     ·subst h41
      have HC := Lib.hid (hC.mono fun e w' h => show e = .returned (.bool true) ∧ PGo b s t1 wr w' from by unfold PClosed at h; rw [hsk] at h; exact h)
      have HF := Lib.hid (show Rd.hashF Rd.S (c :: t) = .ok (.mk 7 0 0 ⟨#[]⟩ l0) t1 from by rw [HE.out, hS, Rd.S_close hsk]; simp [Rd.pre, Rd.Res.map])
      have HTW := Lib.hid hT
      have HG := Lib.hid hg1
      have HBX := Lib.hid hbx
      clear hC hq hql hp1 hat1 hg1 hS hT hbx hsk f0 f1 p0 p1 p2 p3 p4 z0 z1 z2 z3 z4 fl pl
      go_wp2_with (first | (go_at_call 36; refine HC.out.mono ?_; rintro e' w1 ⟨rfl, hgo⟩; have hb1 : Box5 w1 w.heap.size 30 (.int .i64 0) (.int .i64 0) (.int .i64 0) (.string ⟨#[]⟩) (.slice none 0 0) := (hgo.2.block _ HBX.out.lt hne).trans HBX.out; obtain ⟨p0, p1, p2, p3, p4⟩ := hb1.cells; obtain ⟨z0, z1, z2, z3, z4⟩ := hb1.free; have pl := hb1.lt; have HB1 := Lib.hid hb1; have HGO := Lib.hid hgo; clear hb1 hgo))
      have HR5 := Lib.hid (HB1.out.set (.int .i64 7) (.int .i64 0) (.int .i64 0) (.string ⟨#[]⟩) (.slice o3 len3 cap3))
      obtain ⟨r0, r1, r2, r3, r4⟩ := HR5.out.cells
      refine bodyPost_ret (v := .agg #[.int .i64 7, .int .i64 0, .int .i64 0, .string ⟨#[]⟩, .slice o3 len3 cap3]) (by simp [results, Tryd.results20, go_sem, r0, r1, r2, r3, r4]) rfl ?_
      rw [HF.out]
      have hg2 := (HG.out.turned HGO.out.2 (fun q _ hq => by subst hq; exact Nat.lt_succ_of_lt hb)).five (B := w.heap.size) (Nat.lt_succ_self _) (.int .i64 7) (.int .i64 0) (.int .i64 0) (.string ⟨#[]⟩) (.slice o3 len3 cap3)
      refine ⟨_, rfl, RepD.shut (by omega) (by omega) (by omega) (by decide) (hg2.rep.shown (Shown.less _ fun q _ hq => Nat.lt_succ_of_lt hq) (Nat.le_refl _)), ?_, turned_low (HTW.out.next HGO.out.2) (set5_below _ _ _ _ _ _ _ _ (Nat.le_refl _))⟩
      exact (set5_heap _ _ _ _ _ _ _ (Ne.symm hne)).trans HGO.out.1
     ·have HC := Lib.hid (hC.mono fun e w' h => show e = .returned (.bool false) ∧ PGo b s (c1 :: t1) wr w' from by unfold PClosed at h; rw [hsk] at h; simp only at h; rw [if_neg h41] at h; exact h)
      have hDk : ∀ W, PGo b s (c1 :: t1) wr W → Calls Tryd.prog 9 #[.pointer (some ⟨b, 0, none⟩)] W (PDat b s (Rd.D (c1 :: t1)) W) := fun W hW => H b s _ _ W (by omega) hW.1 hq hs
      have HTW := Lib.hid hT
      have HG := Lib.hid hg1
      have HBX := Lib.hid hbx
      have hgood := Rd.D_good (c1 :: t1)
      have hk1 := hbx.lt
      cases hD : Rd.D (c1 :: t1) with
      | bad q =>
       rw [hD] at hDk
       have HD := Lib.hid hDk
       have HF := Lib.hid (show Rd.hashF Rd.S (c :: t) = .bad q from by rw [HE.out, hS, Rd.S_item hsk h41 (by simp), Rd.pre_bad hD]; rfl)
       clear hC hq hql hp1 hat1 hg1 hS hT hbx hsk f0 f1 p0 p1 p2 p3 p4 z0 z1 z2 z3 z4 fl pl hDk hD hgood
       go_wp2_with (first | (go_at_call 36; refine HC.out.mono ?_; rintro e' w1 ⟨rfl, hgo⟩; have HGO := Lib.hid hgo; clear hgo) | (go_at_call 9; refine (HD.out _ HGO.out).mono ?_; rintro e' w2 ⟨rfl, ht2⟩))
       exact ⟨rfl, by rw [HF.out]; exact ⟨rfl, (HTW.out.next HGO.out.2).next ht2⟩⟩
      | ok x q =>
       rw [hD] at hDk hgood
       have HD := Lib.hid hDk
       have HS2 := Lib.hid (show Rd.S false false t = Rd.pre (l0 ++ [x]) (Rd.S false true q) from by rw [hS, Rd.S_item hsk h41 (by simp), Rd.pre_ok hD])
       have HQA := Lib.hid (hq.suf hgood.1)
       have hql2 : q.length < r1.length := Nat.lt_of_lt_of_le hgood.2 hql
       clear hC hq hql hp1 hat1 hg1 hS hT hbx hsk f0 f1 p0 p1 p2 p3 p4 z0 z1 z2 z3 z4 fl pl hDk hD hgood
       go_wp2_with (first | (go_at_call 36; refine HC.out.mono ?_; rintro e' w1 ⟨rfl, hgo⟩; have HGO := Lib.hid hgo; clear hgo) | (go_at_call 9; refine (HD.out _ HGO.out).mono ?_; rintro e' w2 ⟨v, rfl, hrep, hgo2⟩; obtain ⟨k9, n9, d9, s9, o9, len9, cap9, rfl⟩ := agg_of hrep.unhide; have HREP := Lib.hid hrep; have HGO2 := Lib.hid hgo2; clear hrep hgo2) | (at_builtin; go_loud (refine wpList_grow rfl (.tmp 58) (.tmp 61) rfl (w.heap.size + 1) (w.heap.size + 1) w1.heap.size _ l0 x _ _ _ _ _ rfl ((HG.out.turned HGO.out.2 (fun q _ hq => by subst hq; exact Nat.lt_succ_of_lt hb)).turned HGO2.out.2 (fun q _ hq => by subst hq; exact Nat.lt_succ_of_lt hb)) HREP.out (Nat.le_trans hk1 HGO.out.2.size) (fun g hg => ((HG.out.turned HGO.out.2 (fun q _ hq => by subst hq; exact Nat.lt_succ_of_lt hb)).block hg).2) (by omega) (Nat.le_trans hk1 (Nat.le_trans HGO.out.2.size HGO2.out.2.size)) rfl ?_)))
       intro g cap w3 hg3 ht3
       have hrow : ∀ q, (Value.slice o3 len3 cap3).ownBlock = some q → w.heap.size < q := fun q hq => (HG.out.block hq).1
       have HT6 := Lib.hid (((HTW.out.next HGO.out.2).next HGO2.out.2).trans ht3 (fun q hq hs => by have := hrow q hs; omega))
       have HPB := Lib.hid (show PB w3 b s (s.size - q.length) from ht3.box HGO2.out.1 (fun hq => by have := hrow b hq; omega))
       have HB9 := Lib.hid (show Box5 w3 w.heap.size 30 (.int .i64 0) (.int .i64 0) (.int .i64 0) (.string ⟨#[]⟩) (.slice none 0 0) from (ht3.block _ (Nat.lt_of_lt_of_le hk1 (Nat.le_trans HGO.out.2.size HGO2.out.2.size)) (fun hq => by have := hrow _ hq; omega)).trans ((HGO2.out.2.block _ (Nat.lt_of_lt_of_le hk1 HGO.out.2.size) hne).trans ((HGO.out.2.block _ hk1 hne).trans HBX.out)))
       have HG3 := Lib.hid hg3
       clear hg3 ht3 hrow
       go_wp2_with fail
       go_roundg q.length
       case measure => omega
       case rel => exact Lib.hid ⟨_, q, l0 ++ [x], HPB.out, HQA.out, HG3.out, HS2.out, Nat.le_refl _, by rw [List.length_append]; simp; omega, HT6.out, HB9.out⟩
  ·rw [decide_eq_false c4] at q4
   have HE := Lib.hid (show Rd.hashF Rd.S (c :: t) = .bad (c :: t) from by simp only [Rd.hashF]; rw [if_neg c1, if_neg c2, if_neg c3, if_neg c4])
   clear c1 c2 c3 c4
   go_quiet (fail)
   go_wp2_with fail
   exact ⟨rfl, by rw [HE.out]; exact ⟨by rw [← HPS.out]; rfl, HT3.out.next (Turned.of_below (Below.selfN _ _))⟩⟩
end
end Go.Proofs.YtpcneeekmhdhgaaDoor

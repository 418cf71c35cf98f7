/-
  What the proofs lean on: RdR0, RdR1, RdR2, RdR3, RdR4, RdR5, RdR6.
-/
import Derived.Deep.LoopGhost
import Derived.Deep.Cut
import Derived.Deep.CutRange
import Derived.Deep.DeepCutAuto
import Derived.Test.YtpcneeekmhdhgaaGreatDoorRdzA03
import Derived.Test.YtpcneeekmhdhgaaGreatDoorRdzA04
import Derived.Test.YtpcneeekmhdhgaaGreatDoorRdzA08
import Derived.Test.YtpcneeekmhdhgaaGreatDoorRdzA09
import Derived.Test.YtpcneeekmhdhgaaGreatDoorRdzA10
set_option maxRecDepth 100000
set_option maxHeartbeats 16000000
namespace Go.Proofs.YtpcneeekmhdhgaaGreatDoor
section
open Go Go.RowKit
def RB (W : World) (b : Nat) (s : ByteArray) (a : Nat) (d : Int) : Prop := BoxL W b 56 [.string s, .int .i64 a, .int .i64 d]
theorem RB.at {W : World} {b : Nat} {s : ByteArray} {a : Nat} {d : Int} (h : RB W b s a d) (a' : Nat) : RB (W.setCell ⟨b, 1, none⟩ (.int .i64 a')) b s a' d := BoxL.set h 1 _
theorem RB.bad {W : World} {b : Nat} {s : ByteArray} {a : Nat} {d : Int} (h : RB W b s a d) (d' : Int) : RB (W.setCell ⟨b, 2, none⟩ (.int .i64 d')) b s a d' := BoxL.set h 2 _
theorem RB.five' {W : World} {b B : Nat} {s : ByteArray} {a : Nat} {d : Int} (h : RB W b s a d) (hn : b ≠ B) (d0 d1 d2 d3 d4 : Value) : RB (set5 W B d0 d1 d2 d3 d4) b s a d := (set5_heap _ _ _ _ _ _ _ hn).trans h
theorem five_turned (W : World) (B : Nat) (d0 d1 d2 d3 d4 : Value) : Turned (fun c => c = B) W (set5 W B d0 d1 d2 d3 d4) := ⟨(set5_below W B B d0 d1 d2 d3 d4 (Nat.le_refl _)).os, (set5_below W B B d0 d1 d2 d3 d4 (Nat.le_refl _)).tape, (set5_below W B B d0 d1 d2 d3 d4 (Nat.le_refl _)).output, by rw [set5_size]; exact Nat.le_refl _, fun b _ hn => set5_heap _ _ _ _ _ _ _ hn⟩
theorem rfail_any (b : Nat) (s : ByteArray) (a : Nat) (d p : Int) (w : World) (hp : RB w b s a d) :
  Calls Tryz.prog 43 #[.pointer (some ⟨b, 0, none⟩), .int .i64 p] w fun e w' => e = .returned (.agg #[.int .i64 4, .int .i64 0, .int .i64 0, .string ⟨#[]⟩, .slice none 0 0]) ∧ RB w' b s a (if d < 0 then p else d) ∧ Turned (fun c => c = b) w w' := by
 have c2 := hp.cell 2 rfl
 have z2 := hp.free 2
 have hl := hp.lt
 have HP := Lib.hid hp
 clear hp
 by_cases hd : d < 0
 ·have hdd : decide (d < 0) = true := by simpa using hd
  rw [if_pos hd]
  clear hd
  go_enter Tryz.func43, Tryz.ntmps43
  go_upto_region 1 with fail
  have hb5 : Box5 (w.alloc (.cells #[.int .i64 0, .int .i64 0, .int .i64 0, .string ⟨#[]⟩, .slice none 0 0] 33)) w.heap.size 33 (.int .i64 0) (.int .i64 0) (.int .i64 0) (.string ⟨#[]⟩) (.slice none 0 0) := Box5.new w _ _ _ _ _ _
  have hp1 : RB (w.alloc (.cells #[.int .i64 0, .int .i64 0, .int .i64 0, .string ⟨#[]⟩, .slice none 0 0] 33)) b s a d := BoxL.alloc HP.out _
  have hT1 : Turned (fun c => c = b) w (w.alloc (.cells #[.int .i64 0, .int .i64 0, .int .i64 0, .string ⟨#[]⟩, .slice none 0 0] 33)) := Turned.of_below (Below.one _ _)
  generalize (w.alloc (.cells #[.int .i64 0, .int .i64 0, .int .i64 0, .string ⟨#[]⟩, .slice none 0 0] 33)) = W1 at hb5 hp1 hT1 ⊢
  clear c2 z2
  have c2 := hp1.cell 2 rfl
  have z2 := hp1.free 2
  have l1 := hp1.lt
  obtain ⟨d0, d1, d2, d3, d4⟩ := hb5.cells
  have dl := hb5.lt
  obtain ⟨y0, y1, y2, y3, y4⟩ := hb5.free
  have HB5 := Lib.hid hb5
  have HP1 := Lib.hid hp1
  have HT1 := Lib.hid hT1
  clear hb5 hp1 hT1
  go_wp2_with fail
  have HR5 := Lib.hid ((show Box5 (W1.setCell ⟨b, 2, none⟩ (.int .i64 p)) w.heap.size 33 _ _ _ _ _ from (setCell_heap_other W1 ⟨b, 2, none⟩ (.int .i64 p) (by simp; omega)).trans HB5.out).set (.int .i64 4) (.int .i64 0) (.int .i64 0) (.string ⟨#[]⟩) (.slice none 0 0))
  obtain ⟨r0, r1, r2, r3, r4⟩ := HR5.out.cells
  refine bodyPost_ret (v := .agg #[.int .i64 4, .int .i64 0, .int .i64 0, .string ⟨#[]⟩, .slice none 0 0]) (by simp [results, Tryz.results43, go_sem, r0, r1, r2, r3, r4]) rfl ?_
  exact ⟨rfl, (RB.bad HP1.out p).five' (by omega) _ _ _ _ _, (HT1.out.next (Turned.set _ _ _ rfl)).trans (five_turned (W1.setCell ⟨b, 2, none⟩ (.int .i64 p)) w.heap.size _ _ _ _ _) fun c h1 h2 => absurd h1 (by omega)⟩
 ·have hdd : decide (d < 0) = false := by simpa using hd
  rw [if_neg hd]
  clear hd
  go_enter Tryz.func43, Tryz.ntmps43
  go_upto_region 1 with fail
  have hb5 : Box5 (w.alloc (.cells #[.int .i64 0, .int .i64 0, .int .i64 0, .string ⟨#[]⟩, .slice none 0 0] 33)) w.heap.size 33 (.int .i64 0) (.int .i64 0) (.int .i64 0) (.string ⟨#[]⟩) (.slice none 0 0) := Box5.new w _ _ _ _ _ _
  have hp1 : RB (w.alloc (.cells #[.int .i64 0, .int .i64 0, .int .i64 0, .string ⟨#[]⟩, .slice none 0 0] 33)) b s a d := BoxL.alloc HP.out _
  have hT1 : Turned (fun c => c = b) w (w.alloc (.cells #[.int .i64 0, .int .i64 0, .int .i64 0, .string ⟨#[]⟩, .slice none 0 0] 33)) := Turned.of_below (Below.one _ _)
  generalize (w.alloc (.cells #[.int .i64 0, .int .i64 0, .int .i64 0, .string ⟨#[]⟩, .slice none 0 0] 33)) = W1 at hb5 hp1 hT1 ⊢
  clear c2 z2
  have c2 := hp1.cell 2 rfl
  have z2 := hp1.free 2
  have l1 := hp1.lt
  obtain ⟨d0, d1, d2, d3, d4⟩ := hb5.cells
  have dl := hb5.lt
  obtain ⟨y0, y1, y2, y3, y4⟩ := hb5.free
  have HB5 := Lib.hid hb5
  have HP1 := Lib.hid hp1
  have HT1 := Lib.hid hT1
  clear hb5 hp1 hT1
  go_wp2_with fail
  have HR5 := Lib.hid (HB5.out.set (.int .i64 4) (.int .i64 0) (.int .i64 0) (.string ⟨#[]⟩) (.slice none 0 0))
  obtain ⟨r0, r1, r2, r3, r4⟩ := HR5.out.cells
  refine bodyPost_ret (v := .agg #[.int .i64 4, .int .i64 0, .int .i64 0, .string ⟨#[]⟩, .slice none 0 0]) (by simp [results, Tryz.results43, go_sem, r0, r1, r2, r3, r4]) rfl ?_
  exact ⟨rfl, HP1.out.five' (by omega) _ _ _ _ _, HT1.out.trans (five_turned W1 w.heap.size _ _ _ _ _) fun c h1 h2 => absurd h1 (by omega)⟩
end
section
open Go Go.RowKit
theorem byte_ne {c k : UInt8} (h : c ≠ k) : ((c.toNat : Int) == (k.toNat : Int)) = false := by
 simp only [beq_eq_false_iff_ne, ne_eq]
 intro e
 exact h (UInt8.toNat_inj.1 (by omega))
theorem byte_ne32 {c : UInt8} (h : c ≠ 32) : ((c.toNat : Int) == 32) = false := byte_ne h
theorem byte_ne10 {c : UInt8} (h : c ≠ 10) : ((c.toNat : Int) == 10) = false := byte_ne h
theorem byte_ne9 {c : UInt8} (h : c ≠ 9) : ((c.toNat : Int) == 9) = false := byte_ne h
theorem RB.drewN {W : World} {b : Nat} {s : ByteArray} {a : Nat} {d : Int} (h : RB W b s a d) (n : Nat) : RB (W.drewN n) b s a d := BoxL.keep h (Below.selfN _ _)
theorem rnext_any (b : Nat) (s : ByteArray) (a : Nat) (d : Int) (r : List UInt8) (w : World) (hp : RB w b s a d) (hat : Rd.At s a r) (hs : s.size ≤ 65536) :
  Calls Tryz.prog 41 #[.pointer (some ⟨b, 0, none⟩)] w fun e w' => e = .returned (.int .u8 ((Rd.skip false r).headD 0).toNat) ∧ RB w' b s (s.size - (Rd.skip false r).length) d ∧ Turned (fun c => c = b) w w' := by
 have HI := Lib.hid (show ∃ a' r', RB w b s a' d ∧ Rd.At s a' r' ∧ Rd.skip false r' = Rd.skip false r ∧ r'.length ≤ r.length ∧ Turned (fun c => c = b) w w from ⟨a, r, hp, hat, rfl, Nat.le_refl _, Turned.refl _ _⟩)
 clear hp hat
 go_enter Tryz.func41, Tryz.ntmps41
 go_wp2_with fail
 go_loopg [2] r.length (fun g rv wr => rv = .int .u8 0 ∧ ∃ a' r', RB wr b s a' d ∧ Rd.At s a' r' ∧ Rd.skip false r' = Rd.skip false r ∧ r'.length ≤ g ∧ Turned (fun c => c = b) w wr)
 case atStart => exact ⟨rfl, HI.out⟩
 case round =>
  obtain ⟨rfl, a1, r1, hp, hat, hsk, hle, hT⟩ := hrel
  have HT := Lib.hid hT
  have HP := Lib.hid hp
  have HA := Lib.hid hat
  have HSK := Lib.hid hsk
  have c0 := hp.cell 0 rfl
  have c1 := hp.cell 1 rfl
  have hz1 := hp.free 1
  have hl := hp.lt
  clear hp hat hT hsk HI
  cases r1 with
  | nil =>
   have ha : a1 = s.size := by have := HA.out.pos; simpa using this
   subst ha
   have hd : decide ((s.size : Int) < (s.size : Int)) = false := by simp
   go_upto_region 1 with fail
   go_quiet (fail)
   go_wp2_with fail
   go_ret
   rw [← HSK.out]
   exact ⟨rfl, HP.out.drewN _, HT.out.next (Turned.of_below (Below.selfN _ _))⟩
  | cons c t =>
   obtain ⟨hlt, hc⟩ := HA.out.get
   have hd : decide ((a1 : Int) < (s.size : Int)) = true := by simp; omega
   by_cases c59 : c = 59
   ·subst c59
    have HS0 := Lib.hid (show Rd.skip true t = Rd.skip false r from by rw [← HSK.out]; simp [Rd.skip])
    go_upto_region 1 with fail
    go_quiet (fail)
    go_upto_region 2 with fail
    go_quiet (fail)
    go_wp2_with fail
    go_loopg [] (t.length + 1) (fun g wq => ∃ a2 q, RB wq b s a2 d ∧ Rd.At s a2 q ∧ (q = 59 :: t ∨ q.length ≤ t.length ∧ Rd.skip true q = Rd.skip false r) ∧ q.length ≤ g ∧ Turned (fun c => c = b) w wq)
    case atStart => exact ⟨a1, 59 :: t, HP.out.drewN _, HA.out, .inl rfl, by simp, HT.out.next (Turned.of_below (Below.selfN _ _))⟩
    case round =>
     obtain ⟨a2, q, hp2, hat2, hq2, hle2, hT2⟩ := hrel
     have HP2 := Lib.hid hp2
     have HA2 := Lib.hid hat2
     have HT2 := Lib.hid hT2
     have HQ2 := Lib.hid hq2
     clear c0 c1 hz1 hl hd hlt hc
     have c0 := hp2.cell 0 rfl
     have c1 := hp2.cell 1 rfl
     have hz1 := hp2.free 1
     have hl := hp2.lt
     clear hp2 hat2 hq2 hT2
     cases q with
     | nil =>
      have ha : a2 = s.size := by have := HA2.out.pos; simpa using this
      subst ha
      have hd : decide ((s.size : Int) < (s.size : Int)) = false := by simp
      go_upto_region 4 with fail
      go_quiet (fail)
      go_wp2_with fail
      go_roundg 0
      case measure => simp only [List.length_cons] at hle; omega
      case rel => exact ⟨rfl, s.size, [], RB.drewN HP2.out _, HA2.out, by rcases HQ2.out with h | h; exact absurd h (by simp); rw [← h.2]; rfl, Nat.le_refl _, HT2.out.next (Turned.of_below (Below.selfN _ _))⟩
     | cons e u =>
      obtain ⟨hlt, hc⟩ := HA2.out.get
      have hd : decide ((a2 : Int) < (s.size : Int)) = true := by simp; omega
      by_cases c10 : e = 10
      ·subst c10
       go_upto_region 4 with fail
       go_quiet (fail)
       go_wp2_with fail
       have hu : (10 :: u).length ≤ t.length ∧ Rd.skip true (10 :: u) = Rd.skip false r := by rcases HQ2.out with h | h; exact absurd h (by simp); exact h
       go_roundg (u.length + 1)
       case measure => have := hu.1; simp only [List.length_cons] at hle this; omega
       case rel => exact ⟨rfl, a2, 10 :: u, RB.drewN HP2.out _, HA2.out, by rw [← hu.2]; simp [Rd.skip], Nat.le_refl _, HT2.out.next (Turned.of_below (Below.selfN _ _))⟩
      ·have e10 : ((e.toNat : Int) != 10) = true := by rw [bne, byte_ne10 c10]; rfl
       have HN := Lib.hid c10
       clear c10
       go_upto_region 4 with fail
       go_quiet (fail)
       go_wp2_with fail
       go_roundg u.length
       case measure => simp only [List.length_cons] at hle2; omega
       case rel => exact ⟨a2 + 1, u, RB.at (RB.drewN HP2.out _) (a2 + 1), HA2.out.cons, .inr (by
        rcases HQ2.out with h | h
        ·simp only [List.cons.injEq] at h; rw [h.2]; exact ⟨Nat.le_refl _, HS0.out⟩
        ·refine ⟨by have := h.1; simp only [List.length_cons] at this; omega, ?_⟩; rw [← h.2]; simp only [Rd.skip]; rw [if_neg HN.out]), Nat.le_refl _, (HT2.out.next (Turned.of_below (Below.selfN _ _))).next (Turned.set _ _ _ rfl)⟩
   ·have e59 : ((c.toNat : Int) == 59) = false := byte_ne (k := 59) c59
    by_cases hb : c = 32 ∨ c = 10 ∨ c = 9
    ·have HS2 := Lib.hid (show Rd.skip false t = Rd.skip false r from by rw [← HSK.out]; simp only [Rd.skip]; rw [if_neg c59, if_pos hb])
     have hA2 := HA.out.cons
     have HA2 := Lib.hid hA2
     clear hA2 c59
     rcases hb with rfl | rfl | rfl
     all_goals
      go_upto_region 1 with fail
      go_quiet (fail)
      go_upto_region 2 with fail
      go_quiet (fail)
      go_wp2_with fail
      go_roundg t.length
      case measure => simp only [List.length_cons] at hle; omega
      case rel => exact ⟨rfl, a1 + 1, t, RB.at (RB.drewN HP.out _) (a1 + 1), HA2.out, HS2.out, Nat.le_refl _, (HT.out.next (Turned.of_below (Below.selfN _ _))).next (Turned.set _ _ _ rfl)⟩
    ·have HS2 := Lib.hid (show Rd.skip false r = c :: t from by rw [← HSK.out]; simp only [Rd.skip]; rw [if_neg c59, if_neg hb])
     have f1 : ((c.toNat : Int) != 32) = true := by rw [bne, byte_ne32 (fun h => hb (.inl h))]; rfl
     have f2 : ((c.toNat : Int) != 10) = true := by rw [bne, byte_ne10 (fun h => hb (.inr (.inl h)))]; rfl
     have f3 : ((c.toNat : Int) != 9) = true := by rw [bne, byte_ne9 (fun h => hb (.inr (.inr h)))]; rfl
     clear c59 hb
     go_upto_region 1 with fail
     go_quiet (fail)
     go_upto_region 2 with fail
     go_quiet (fail)
     go_wp2_with fail
     go_ret
     rw [HS2.out]
     exact ⟨rfl, by rw [← HA.out.pos]; exact HP.out.drewN _, HT.out.next (Turned.of_below (Below.selfN _ _))⟩
end
section
open Go Go.RowKit
theorem five_ways2 (x : Int) : (97 ≤ x ∧ x ≤ 122) ∨ (48 ≤ x ∧ x ≤ 57) ∨ x < 48 ∨ (57 < x ∧ x < 97) ∨ 122 < x := by omega
def mk10 : List UInt8 := [45, 43, 42, 47, 60, 62, 61, 33, 63, 95]
theorem mk10_get (q : Nat) (h : q < 10) : ∃ hlt : q < (⟨#[45, 43, 42, 47, 60, 62, 61, 33, 63, 95]⟩ : ByteArray).size, (⟨#[45, 43, 42, 47, 60, 62, 61, 33, 63, 95]⟩ : ByteArray)[q] = mk10[q]'h := by
 refine ⟨h, ?_⟩
 match q, h with
 | 0, _ | 1, _ | 2, _ | 3, _ | 4, _ | 5, _ | 6, _ | 7, _ | 8, _ | 9, _ => rfl
theorem mk10_all : ∀ c : Fin 256, mk10.contains (UInt8.ofNat c.val) = false → Rd.mark (UInt8.ofNat c.val) = ((decide (97 ≤ c.val) && decide (c.val ≤ 122)) || (decide (48 ≤ c.val) && decide (c.val ≤ 57))) := by decide +kernel
theorem mk10_in : ∀ q : Fin 10, Rd.mark (mk10[q.val]'q.isLt) = true := by decide +kernel
theorem rmark_any (c : UInt8) (w : World) : Calls Tryz.prog 78 #[.int .u8 c.toNat] w fun e w' => e = .returned (.bool (Rd.mark c)) ∧ w' = w := by
 go_enter Tryz.func78, Tryz.ntmps78
 go_wp2_with fail
 go_loopg [2, 4] 10 (fun g ok k wr => ∃ q : Nat, g = 10 - q ∧ q ≤ 10 ∧ k = .int .i64 q ∧ ok = .bool false ∧ Hid ((mk10.take q).contains c = false) ∧ wr = w)
 case atStart => exact ⟨0, rfl, by omega, rfl, rfl, Lib.hid rfl, rfl⟩
 case round =>
  obtain ⟨q, rfl, hq, rfl, rfl, HM, rfl⟩ := hrel
  by_cases h10 : q < 10
  ·obtain ⟨hlt, hg⟩ := mk10_get q h10
   have hd : decide ((q : Int) < 10) = true := by simp; omega
   obtain ⟨m, hm⟩ : ∃ m, mk10[q] = m := ⟨_, rfl⟩
   rw [hm] at hg
   by_cases hc : c = m
   ·have he : ((c.toNat : Int) == (m.toNat : Int)) = true := by rw [hc]; simp
    have HR := Lib.hid (show Rd.mark c = true from by rw [hc, ← hm]; exact mk10_in ⟨q, h10⟩)
    clear hc hm
    go_wp2_with fail
    go_ret
    exact ⟨by rw [HR.out]; rfl, rfl⟩
   ·have he : ((c.toNat : Int) == (m.toNat : Int)) = false := byte_ne hc
    have HC := Lib.hid (show (mk10.take (q + 1)).contains c = false from by
     rw [← List.take_append_getElem h10, List.contains_eq_any_beq, List.any_append, ← List.contains_eq_any_beq, HM.out, hm]
     simpa using hc)
    clear hc hm
    go_wp2_with fail
    go_roundg (10 - (q + 1))
    case measure => omega
    case rel => exact ⟨q + 1, rfl, by omega, rfl, rfl, HC.out, rfl⟩
  ·obtain rfl : q = 10 := by omega
   have hlt := c.toNat_lt
   have hall := mk10_all ⟨c.toNat, hlt⟩
   rw [show UInt8.ofNat (⟨c.toNat, hlt⟩ : Fin 256).val = c from UInt8.ofNat_toNat] at hall
   have HR := Lib.hid (show Rd.mark c = ((decide (97 ≤ c.toNat) && decide (c.toNat ≤ 122)) || (decide (48 ≤ c.toNat) && decide (c.toNat ≤ 57))) from hall HM.out)
   clear hall
   obtain ⟨n, hn⟩ : ∃ n, c.toNat = n := ⟨_, rfl⟩
   rw [hn] at HR
   rw [hn]
   clear hn hlt
   rcases five_ways2 (n : Int) with ⟨h1, h2⟩ | ⟨h1, h2⟩ | h1 | ⟨h1, h2⟩ | h1
   all_goals
    go_wp2_with fail
    go_ret
    refine ⟨?_, rfl⟩
    rw [HR.out]
    by_cases a1 : 97 ≤ n <;> by_cases a2 : n ≤ 122 <;> by_cases a3 : 48 ≤ n <;> by_cases a4 : n ≤ 57 <;> first | (exfalso; omega) | (simp [a1, a2, a3, a4, show (n : Int) ≤ 57 ↔ n ≤ 57 from by omega, show (n : Int) ≤ 122 ↔ n ≤ 122 from by omega]; done) | fail
end
section
open Go Go.RowKit
def RDat (b : Nat) (s : ByteArray) (res : Rd.Res Dat) (w : World) (e : Ending) (w' : World) : Prop :=
 match res with
 | .ok x q => ∃ v, e = .returned v ∧ RepD (hide w' (Lo w.heap.size)) w'.heap.size x v ∧ RB w' b s (s.size - q.length) (-1) ∧ Turned (fun c => c = b) w w'
 | .bad q => ∃ v x a', e = .returned v ∧ RepD (hide w' (Lo w.heap.size)) w'.heap.size x v ∧ RB w' b s a' ((s.size - q.length : Nat) : Int) ∧ Turned (fun c => c = b) w w'
theorem rdat_leaf {b : Nat} {s : ByteArray} {q : List UInt8} {w wr w2 : World} (k n d : Int) (S : ByteArray) (hT : Turned (fun c => c = b) w wr) (hB : Below wr.heap.size wr w2) (hP : RB wr b s (s.size - q.length) (-1)) (hne : w.heap.size ≠ b)
  (hk : -9223372036854775808 ≤ k ∧ k ≤ 9223372036854775807) (hn : -9223372036854775808 ≤ n ∧ n ≤ 9223372036854775807) (hd : -9223372036854775808 ≤ d ∧ d ≤ 9223372036854775807) (hs : S.size ≤ 140737488351232) :
  RDat b s (.ok (.mk k n d S []) q) w (.returned (.agg #[.int .i64 k, .int .i64 n, .int .i64 d, .string S, .slice none 0 0])) (set5 w2 w.heap.size (.int .i64 k) (.int .i64 n) (.int .i64 d) (.string S) (.slice none 0 0)) := by
 refine ⟨_, rfl, RepD.shut hk hn hd hs ⟨none, 0, 0, rfl, rfl, by omega, by omega, rfl, rfl⟩, ?_, turned_low (hT.next (Turned.of_below hB)) (set5_below _ _ _ _ _ _ _ _ (Nat.le_refl _))⟩
 exact (set5_heap _ _ _ _ _ _ _ (Ne.symm hne)).trans (BoxL.keep hP hB)
theorem rdat_fail {b : Nat} {s : ByteArray} {q : List UInt8} {w w2 : World} {a' : Nat} (hT : Turned (fun c => c = b) w w2) (hP : RB w2 b s a' ((s.size - q.length : Nat) : Int)) (hne : w.heap.size ≠ b) :
  RDat b s (.bad q) w (.returned (.agg #[.int .i64 4, .int .i64 0, .int .i64 0, .string ⟨#[]⟩, .slice none 0 0])) (set5 w2 w.heap.size (.int .i64 4) (.int .i64 0) (.int .i64 0) (.string ⟨#[]⟩) (.slice none 0 0)) := by
 refine ⟨_, .mk 4 0 0 ⟨#[]⟩ [], a', rfl, RepD.shut (by omega) (by omega) (by omega) (by decide) ⟨none, 0, 0, rfl, rfl, by omega, by omega, rfl, rfl⟩, ?_, turned_low hT (set5_below _ _ _ _ _ _ _ _ (Nat.le_refl _))⟩
 exact (set5_heap _ _ _ _ _ _ _ (Ne.symm hne)).trans hP
theorem rmark_quiet (c : UInt8) (k : Bool) (hk : Rd.mark c = k) (w : World) (n : Nat) : Calls Tryz.prog 78 #[.int .u8 c.toNat] (w.drewN n) fun e w' => e = .returned (.bool k) ∧ ∃ m, w' = w.drewN m :=
 (rmark_any c (w.drewN n)).mono fun _ _ h => ⟨by rw [h.1, hk], n, h.2⟩
theorem rword_any (b : Nat) (s : ByteArray) (a : Nat) (r : List UInt8) (w : World) (hp : RB w b s a (-1)) (hat : Rd.At s a r) (hs : s.size ≤ 65536) :
  Calls Tryz.prog 79 #[.pointer (some ⟨b, 0, none⟩)] w (RDat b s (Rd.word r) w) := by
 obtain ⟨T, hT⟩ : ∃ T, r.takeWhile Rd.mark = T := ⟨_, rfl⟩
 obtain ⟨Q, hQ⟩ : ∃ Q, r.dropWhile Rd.mark = Q := ⟨_, rfl⟩
 obtain ⟨P, hP⟩ : ∃ P, Num.parse T = P := ⟨_, rfl⟩
 obtain ⟨n, d, z⟩ := P
 have hsm : (n.natAbs ≤ 2147483647) ∧ (d.natAbs ≤ 2147483647) := by have := Num.parse_small T; rw [hP] at this; exact this
 have htq : r = T ++ Q := by rw [← hT, ← hQ]; exact (List.takeWhile_append_dropWhile).symm
 have HR := Lib.hid (show Rd.word r = if z then .ok (.mk 0 n d Dat.emptyB []) Q else if 40 < T.length then .bad r else .ok (.mk 2 0 0 ⟨T.toArray⟩ []) Q from by unfold Rd.word; rw [hT, hQ, hP])
 have hlT : T.length ≤ s.size := by have := hat.1; rw [htq, List.length_append] at this; omega
 have HX := Lib.hid (show s.extract a (s.size - Q.length) = ⟨T.toArray⟩ from extract_mid (htq ▸ hat))
 have HPA := Lib.hid (fun W => rparse_to ⟨T.toArray⟩ n d z hP (by simp [ByteArray.size]; omega) W)
 have HQ := Lib.hid hQ
 have HPP := Lib.hid hP
 have HA := Lib.hid hat
 have hal : a ≤ s.size := by have := hat.1; omega
 have hab : a + Q.length ≤ s.size := by have := hat.1; rw [htq, List.length_append] at this; omega
 have HP0 := Lib.hid hp
 have hb := hp.lt
 clear hT hQ hP htq hp
 obtain ⟨W0, hW0⟩ : ∃ W0, w.alloc (.cells #[.int .i64 0, .int .i64 0, .int .i64 0, .string ⟨#[]⟩, .slice none 0 0] 33) = W0 := ⟨_, rfl⟩
 have HW0 := Lib.hid hW0
 have HB5 := Lib.hid (show Box5 W0 w.heap.size 33 (.int .i64 0) (.int .i64 0) (.int .i64 0) (.string ⟨#[]⟩) (.slice none 0 0) from by rw [← hW0]; exact Box5.new w _ _ _ _ _ _)
 have HP1 := Lib.hid (show RB W0 b s a (-1) from by rw [← hW0]; exact BoxL.alloc HP0.out _)
 have HT0 := Lib.hid (show Turned (fun c => c = b) w W0 from by rw [← hW0]; exact Turned.of_below (Below.one _ _))
 have c1 := HP1.out.cell 1 rfl
 have hl1 := HP1.out.lt
 clear hW0
 go_enter Tryz.func79, Tryz.ntmps79
 go_upto_region 1 with fail
 rw [HW0.out]
 go_wp2_with fail
 go_loopg [] r.length (fun g wr => ∃ a' r', RB wr b s a' (-1) ∧ Rd.At s a' r' ∧ r'.dropWhile Rd.mark = Q ∧ r'.length ≤ g ∧ Turned (fun c => c = b) W0 wr)
 case atStart => exact ⟨a, r, HP1.out, HA.out, HQ.out, Nat.le_refl _, Turned.refl _ _⟩
 case round =>
  obtain ⟨a1, r1, hp1, hat1, hq1, hle, hT⟩ := hrel
  have c0 := hp1.cell 0 rfl
  have d1 := hp1.cell 1 rfl
  have z1 := hp1.free 1
  have dl := hp1.lt
  have HP2 := Lib.hid hp1
  have HT := Lib.hid hT
  have hla := hat1.1
  by_cases hin : ∃ c t, r1 = c :: t ∧ Rd.mark c = true
  ·obtain ⟨c, t, rfl, hc⟩ := hin
   obtain ⟨hlt, hget⟩ := hat1.get
   have HI := Lib.hid (fun n => rmark_quiet c true hc wr n)
   have HN := Lib.hid (show Rd.At s (a1 + 1) t ∧ t.dropWhile Rd.mark = Q from ⟨hat1.cons, by rw [← hq1, List.dropWhile_cons_of_pos hc]⟩)
   have hlt3 : decide (a1 < s.size) = true := by simp; omega
   simp only [List.length_cons] at hle hla
   clear hp1 hat1 hq1 hT
   go_wp2_with fail
   go_quiet ((go_at_call 78; exact HI.out _))
   have HADD := Lib.hid (show ((a1 : Int) + 1) = ((a1 + 1 : Nat) : Int) from by omega)
   go_wp2_with fail
   rw [HADD.out]
   go_roundg t.length
   case measure => omega
   case rel => exact ⟨a1 + 1, t, RB.at (BoxL.keep HP2.out (Below.selfN _ _)) _, HN.out.1, HN.out.2, Nat.le_refl _, (HT.out.next (Turned.of_below (Below.selfN _ _))).next (Turned.set _ _ _ rfl)⟩
  ·have hrQ : r1 = Q := by
    rw [← hq1]
    cases r1 with
    | nil => rfl
    | cons c t => rw [List.dropWhile_cons_of_neg (fun h => hin ⟨c, t, rfl, h⟩)]
   have ha1 : a1 = s.size - Q.length := by rw [← hrQ]; exact hat1.pos
   have HT1 := Lib.hid (HT0.out.next hT)
   have hne : w.heap.size ≠ b := by omega
   have HBX := Lib.hid (show Box5 wr w.heap.size 33 (.int .i64 0) (.int .i64 0) (.int .i64 0) (.string ⟨#[]⟩) (.slice none 0 0) from (hT.block _ HB5.out.lt hne).trans HB5.out)
   have HPE := Lib.hid (show RB wr b s (s.size - Q.length) (-1) from by rw [← ha1]; exact hp1)
   have hX : s.extract a a1 = ⟨T.toArray⟩ := by rw [ha1]; exact HX.out
   have ha2 : a ≤ a1 := by omega
   have ha3 : a1 ≤ s.size := by omega
   have hexit : r1 = [] ∨ ∃ c t, r1 = c :: t ∧ Rd.mark c = false := by
    cases r1 with
    | nil => exact .inl rfl
    | cons c t =>
     refine .inr ⟨c, t, rfl, ?_⟩
     cases hc : Rd.mark c with
     | false => rfl
     | true => exact (hin ⟨c, t, rfl, hc⟩).elim
   have hat2 := hat1
   clear hin hrQ hq1 hT hp1 ha1 hat1
   rcases hexit with h | ⟨c, t, h, hc⟩
   case' inl =>
    subst h
    have hlt3 : decide (a1 < s.size) = false := by simp at hla ⊢; omega
    clear hat2 hle hla
    go_wp2_with fail
    go_quiet (fail)
    go_wp2_with fail
    go_quiet (fail)
   case' inr =>
    subst h
    obtain ⟨hlt, hget⟩ := hat2.get
    have HI := Lib.hid (fun n => rmark_quiet c false hc wr n)
    have hlt3 : decide (a1 < s.size) = true := by simp; omega
    clear hat2 hle hla hc
    go_wp2_with fail
    go_quiet ((go_at_call 78; exact HI.out _))
    go_wp2_with fail
    go_quiet (fail)
   all_goals
    have hlt5 : (decide (40 < T.length) = true ∧ decide ((40 : Int) < (T.length : Int)) = true) ∨ (decide (40 < T.length) = false ∧ decide ((40 : Int) < (T.length : Int)) = false) := by
     by_cases h : 40 < T.length
     ·exact .inl ⟨by simp [h], by simp; omega⟩
     ·exact .inr ⟨by simp [h], by simp; omega⟩
    cases z
    case' true =>
     go_wp2_with (first | (go_at_call 130; go_loud (refine (HPA.out _).mono ?_; rintro e' w2 ⟨rfl, hb2⟩; have hbx : Box5 w2 w.heap.size 33 (.int .i64 0) (.int .i64 0) (.int .i64 0) (.string ⟨#[]⟩) (.slice none 0 0) := (hb2.block _ HBX.out.lt).trans HBX.out; have HB2 := Lib.hid (show Below wr.heap.size wr w2 from Below.next (Below.selfN wr _) hb2); obtain ⟨q0, q1, q2, q3, q4⟩ := hbx.cells; obtain ⟨z0, z2, z3, z4, z5⟩ := hbx.free; have hgl := hbx.lt; have HBX2 := Lib.hid hbx; clear hb2 hbx)))
     have HR5 := Lib.hid (HBX2.out.set (.int .i64 0) (.int .i64 n) (.int .i64 d) (.string ⟨#[]⟩) (.slice none 0 0))
     obtain ⟨r0, r1, r2, r3, r4⟩ := HR5.out.cells
     refine bodyPost_ret (v := .agg #[.int .i64 0, .int .i64 n, .int .i64 d, .string ⟨#[]⟩, .slice none 0 0]) (by simp [results, Tryz.results79, go_sem, r0, r1, r2, r3, r4]) rfl ?_
     rw [HR.out, if_pos trivial]
     exact rdat_leaf 0 n d ⟨#[]⟩ HT1.out HB2.out HPE.out hne (by omega) (by omega) (by omega) (by decide)
    case' false =>
     rcases hlt5 with ⟨h5, h6⟩ | ⟨h5, h6⟩
     ·go_wp2_with (first | (go_at_call 130; go_loud (refine (HPA.out _).mono ?_; rintro e' w2 ⟨rfl, hb2⟩; have hbx : Box5 w2 w.heap.size 33 (.int .i64 0) (.int .i64 0) (.int .i64 0) (.string ⟨#[]⟩) (.slice none 0 0) := (hb2.block _ HBX.out.lt).trans HBX.out; have HB2 := Lib.hid (show Below wr.heap.size wr w2 from Below.next (Below.selfN wr _) hb2); obtain ⟨q0, q1, q2, q3, q4⟩ := hbx.cells; obtain ⟨z0, z2, z3, z4, z5⟩ := hbx.free; have hgl := hbx.lt; have HBX2 := Lib.hid hbx; clear hb2 hbx)) | (go_at_call 43; refine (rfail_any b s (s.size - Q.length) (-1) a _ (BoxL.keep HPE.out HB2.out)).mono ?_; rintro e' w3 ⟨rfl, hrb, ht3⟩; have HRB := Lib.hid hrb; have hbx3 : Box5 w3 w.heap.size 33 (.int .i64 0) (.int .i64 0) (.int .i64 0) (.string ⟨#[]⟩) (.slice none 0 0) := (ht3.block _ HBX2.out.lt hne).trans HBX2.out; have HT3 := Lib.hid ht3; clear q0 q1 q2 q3 q4 z0 z2 z3 z4 z5 hgl; obtain ⟨q0, q1, q2, q3, q4⟩ := hbx3.cells; obtain ⟨z0, z2, z3, z4, z5⟩ := hbx3.free; have hgl := hbx3.lt; have HBX3 := Lib.hid hbx3; clear hrb ht3 hbx3))
      have HR5 := Lib.hid (HBX3.out.set (.int .i64 4) (.int .i64 0) (.int .i64 0) (.string ⟨#[]⟩) (.slice none 0 0))
      obtain ⟨r0, r1, r2, r3, r4⟩ := HR5.out.cells
      refine bodyPost_ret (v := .agg #[.int .i64 4, .int .i64 0, .int .i64 0, .string ⟨#[]⟩, .slice none 0 0]) (by simp [results, Tryz.results79, go_sem, r0, r1, r2, r3, r4]) rfl ?_
      rw [HR.out, if_neg (by decide), if_pos (by simpa using h5)]
      exact rdat_fail ((HT1.out.next (Turned.of_below HB2.out)).next HT3.out) (by have := HRB.out; rw [if_pos (by decide), HA.out.pos] at this; exact this) hne
     ·go_wp2_with (first | (go_at_call 130; go_loud (refine (HPA.out _).mono ?_; rintro e' w2 ⟨rfl, hb2⟩; have hbx : Box5 w2 w.heap.size 33 (.int .i64 0) (.int .i64 0) (.int .i64 0) (.string ⟨#[]⟩) (.slice none 0 0) := (hb2.block _ HBX.out.lt).trans HBX.out; have HB2 := Lib.hid (show Below wr.heap.size wr w2 from Below.next (Below.selfN wr _) hb2); obtain ⟨q0, q1, q2, q3, q4⟩ := hbx.cells; obtain ⟨z0, z2, z3, z4, z5⟩ := hbx.free; have hgl := hbx.lt; have HBX2 := Lib.hid hbx; clear hb2 hbx)))
      have HR5 := Lib.hid (HBX2.out.set (.int .i64 2) (.int .i64 0) (.int .i64 0) (.string ⟨T.toArray⟩) (.slice none 0 0))
      obtain ⟨r0, r1, r2, r3, r4⟩ := HR5.out.cells
      refine bodyPost_ret (v := .agg #[.int .i64 2, .int .i64 0, .int .i64 0, .string ⟨T.toArray⟩, .slice none 0 0]) (by simp [results, Tryz.results79, go_sem, r0, r1, r2, r3, r4]) rfl ?_
      rw [HR.out, if_neg (by decide), if_neg (by simpa using h5)]
      exact rdat_leaf 2 0 0 ⟨T.toArray⟩ HT1.out HB2.out HPE.out hne (by omega) (by omega) (by omega) (by simp [ByteArray.size]; omega)
end
section
open Go Go.RowKit
theorem rfail_to {b k : Nat} {s : ByteArray} {a : Nat} {d : Int} {wr : World} {t : TypeId} {c0 c1 c2 c3 c4 : Value} (n : Nat) (hp : RB wr b s a d) (hb : Box5 wr k t c0 c1 c2 c3 c4) (hne : k ≠ b) (p : Int) :
  Calls Tryz.prog 43 #[.pointer (some ⟨b, 0, none⟩), .int .i64 p] (wr.drewN n) fun e w' => e = .returned (.agg #[.int .i64 4, .int .i64 0, .int .i64 0, .string ⟨#[]⟩, .slice none 0 0]) ∧ RB w' b s a (if d < 0 then p else d) ∧ Turned (fun c => c = b) wr w' ∧ Box5 w' k t c0 c1 c2 c3 c4 :=
 (rfail_any b s a d p _ (RB.drewN hp n)).mono fun _ w' h => by
  have ht := (Turned.of_below (S := fun c => c = b) (Below.selfN wr n)).next h.2.2
  exact ⟨h.1, h.2.1, ht, (ht.block _ hb.lt hne).trans hb⟩
theorem rstr_any (b : Nat) (s : ByteArray) (a : Nat) (r : List UInt8) (w : World) (hp : RB w b s a (-1)) (hat0 : Rd.At s a (34 :: r)) (hs : s.size ≤ 65536) :
  Calls Tryz.prog 80 #[.pointer (some ⟨b, 0, none⟩)] w (RDat b s (Rd.str r) w) := by
 obtain ⟨T, hT⟩ : ∃ T, r.takeWhile Dat.strByte = T := ⟨_, rfl⟩
 obtain ⟨Q, hQ⟩ : ∃ Q, r.dropWhile Dat.strByte = Q := ⟨_, rfl⟩
 have htq : r = T ++ Q := by rw [← hT, ← hQ]; exact (List.takeWhile_append_dropWhile).symm
 have hat := hat0.cons
 have HR := Lib.hid (show Rd.str r = Rd.strQ T Q from by rw [Rd.str_eq, hT, hQ])
 have hlT : T.length ≤ s.size := by have := hat.1; rw [htq, List.length_append] at this; omega
 have HX := Lib.hid (show s.extract (a + 1) (s.size - Q.length) = ⟨T.toArray⟩ from extract_mid (htq ▸ hat))
 have HQ := Lib.hid hQ
 have HA := Lib.hid hat
 have hal : a < s.size := by have := hat0.1; simp only [List.length_cons] at this; omega
 have hab : a + 1 + Q.length ≤ s.size := by have := hat.1; rw [htq, List.length_append] at this; omega
 have HP0 := Lib.hid hp
 have hb := hp.lt
 have HADD := Lib.hid (show ((a : Int) + 1) = ((a + 1 : Nat) : Int) from by omega)
 clear hT hQ htq hp hat hat0
 obtain ⟨W0, hW0⟩ : ∃ W0, w.alloc (.cells #[.int .i64 0, .int .i64 0, .int .i64 0, .string ⟨#[]⟩, .slice none 0 0] 33) = W0 := ⟨_, rfl⟩
 have HW0 := Lib.hid hW0
 have HB5 := Lib.hid (show Box5 W0 w.heap.size 33 (.int .i64 0) (.int .i64 0) (.int .i64 0) (.string ⟨#[]⟩) (.slice none 0 0) from by rw [← hW0]; exact Box5.new w _ _ _ _ _ _)
 have HP1 := Lib.hid (show RB W0 b s a (-1) from by rw [← hW0]; exact BoxL.alloc HP0.out _)
 have HT0 := Lib.hid (show Turned (fun c => c = b) w W0 from by rw [← hW0]; exact Turned.of_below (Below.one _ _))
 have c1 := HP1.out.cell 1 rfl
 have y1 := HP1.out.free 1
 have hl1 := HP1.out.lt
 clear hW0
 go_enter Tryz.func80, Tryz.ntmps80
 go_upto_region 1 with fail
 rw [HW0.out]
 go_upto_region 2 with fail
 rw [HADD.out]
 have hP2 : RB (W0.setCell ⟨b, 1, none⟩ (.int .i64 ((a + 1 : Nat) : Int))) b s (a + 1) (-1) := RB.at HP1.out _
 have hT2 : Turned (fun c => c = b) W0 (W0.setCell ⟨b, 1, none⟩ (.int .i64 ((a + 1 : Nat) : Int))) := Turned.set _ _ _ rfl
 generalize W0.setCell ⟨b, 1, none⟩ (.int .i64 ((a + 1 : Nat) : Int)) = W1 at hP2 hT2 ⊢
 have HP2 := Lib.hid hP2
 have HT1 := Lib.hid (HT0.out.next hT2)
 have hne : w.heap.size ≠ b := by omega
 have HB6 := Lib.hid (show Box5 W1 w.heap.size 33 (.int .i64 0) (.int .i64 0) (.int .i64 0) (.string ⟨#[]⟩) (.slice none 0 0) from (hT2.block _ HB5.out.lt hne).trans HB5.out)
 have d1 := hP2.cell 1 rfl
 have e1 := hP2.lt
 clear hP2 hT2 c1 y1 hl1
 go_wp2_with fail
 clear d1 e1
 go_loopg [] r.length (fun g wr => ∃ a' r', RB wr b s a' (-1) ∧ Rd.At s a' r' ∧ r'.dropWhile Dat.strByte = Q ∧ r'.length ≤ g ∧ Turned (fun c => c = b) W1 wr)
 case atStart => exact ⟨a + 1, r, HP2.out, HA.out, HQ.out, Nat.le_refl _, Turned.refl _ _⟩
 case round =>
  obtain ⟨a1, r1, hp1, hat1, hq1, hle, hT⟩ := hrel
  have c0 := hp1.cell 0 rfl
  have d1 := hp1.cell 1 rfl
  have z1 := hp1.free 1
  have dl := hp1.lt
  have HP3 := Lib.hid hp1
  have HT := Lib.hid hT
  have hla := hat1.1
  by_cases hin : ∃ c t, r1 = c :: t ∧ Dat.strByte c = true
  ·obtain ⟨c, t, rfl, hc⟩ := hin
   obtain ⟨hlt, hget⟩ := hat1.get
   obtain ⟨k1, k2, k3, k4⟩ := strByte_of hc
   have m1 : ((c.toNat : Int) != 34) = true := by simp; omega
   have m2 : decide (c.toNat < 32) = false := by simp; omega
   have m2' : decide ((c.toNat : Int) < 32) = false := by simp; omega
   have m3 : decide (126 < c.toNat) = false := by simp; omega
   have m3' : decide ((126 : Int) < (c.toNat : Int)) = false := by simp; omega
   have m4 : ((c.toNat : Int) == 92) = false := by simp; omega
   have HN := Lib.hid (show Rd.At s (a1 + 1) t ∧ t.dropWhile Dat.strByte = Q from ⟨hat1.cons, by rw [← hq1, List.dropWhile_cons_of_pos hc]⟩)
   have hlt3 : decide (a1 < s.size) = true := by simp; omega
   have HADD := Lib.hid (show ((a1 : Int) + 1) = ((a1 + 1 : Nat) : Int) from by omega)
   simp only [List.length_cons] at hle hla
   clear hp1 hat1 hq1 hT
   go_wp2_with fail
   go_quiet (fail)
   go_wp2_with fail
   go_quiet (fail)
   go_wp2_with fail
   rw [HADD.out]
   go_roundg t.length
   case measure => omega
   case rel => exact ⟨a1 + 1, t, RB.at (BoxL.keep HP3.out (Below.selfN _ _)) _, HN.out.1, HN.out.2, Nat.le_refl _, (HT.out.next (Turned.of_below (Below.selfN _ _))).next (Turned.set _ _ _ rfl)⟩
  ·have hrQ : r1 = Q := by
    rw [← hq1]
    cases r1 with
    | nil => rfl
    | cons c t => rw [List.dropWhile_cons_of_neg (fun h => hin ⟨c, t, rfl, h⟩)]
   have HTW := Lib.hid (HT1.out.next hT)
   have HBX := Lib.hid (show Box5 wr w.heap.size 33 (.int .i64 0) (.int .i64 0) (.int .i64 0) (.string ⟨#[]⟩) (.slice none 0 0) from (hT.block _ HB6.out.lt hne).trans HB6.out)
   have hpos := hat1.pos
   rw [hrQ] at hpos
   subst hrQ
   cases hr1 : r1 with
   | nil =>
    subst hr1
    have ha1 : a1 = s.size := by simpa using hpos
    have hlt3 : decide (a1 < s.size) = false := by simp; omega
    have heq : ((a1 : Int) == (s.size : Int)) = true := by simp; omega
    have HE := Lib.hid ha1
    clear hp1 hat1 hq1 hT hin hpos ha1 hle hla
    go_wp2_with fail
    go_quiet (fail)
    go_wp2_with fail
    go_quiet (fail)
    go_wp2_with (first | (go_at_call 43; refine (rfail_to _ HP3.out HBX.out hne _).mono ?_; rintro e' w3 ⟨rfl, hrb, ht3, hbx3⟩; have HRB := Lib.hid hrb; have HT3 := Lib.hid ht3; obtain ⟨q0, q1, q2, q3, q4⟩ := hbx3.cells; obtain ⟨z0, z2, z3, z4, z5⟩ := hbx3.free; have hgl := hbx3.lt; have HBX3 := Lib.hid hbx3; clear hrb ht3 hbx3))
    have HR5 := Lib.hid (HBX3.out.set (.int .i64 4) (.int .i64 0) (.int .i64 0) (.string ⟨#[]⟩) (.slice none 0 0))
    obtain ⟨r0, r1, r2, r3, r4⟩ := HR5.out.cells
    refine bodyPost_ret (v := .agg #[.int .i64 4, .int .i64 0, .int .i64 0, .string ⟨#[]⟩, .slice none 0 0]) (by simp [results, Tryz.results80, go_sem, r0, r1, r2, r3, r4]) rfl ?_
    rw [HR.out]
    exact rdat_fail (HTW.out.next HT3.out) (by have := HRB.out; rw [if_pos (by decide), HE.out] at this; exact this) hne
   | cons c t =>
    subst hr1
    obtain ⟨hlt, hget⟩ := hat1.get
    have hcf : Dat.strByte c = false := by
     cases h : Dat.strByte c with
     | false => rfl
     | true => exact (hin ⟨c, t, rfl, h⟩).elim
    have hlt3 : decide (a1 < s.size) = true := by simp; omega
    by_cases h34 : c = 34
    ·have m1 : ((c.toNat : Int) != 34) = false := by subst h34; rfl
     have heq : ((a1 : Int) == (s.size : Int)) = false := by simp; omega
     have HX1 := Lib.hid (show s.extract (a + 1) a1 = ⟨T.toArray⟩ from by rw [hpos]; exact HX.out)
     have hX1 := HX1.out
     simp only [List.length_cons] at hla hpos hab
     have hb1 : a + 1 ≤ a1 := by omega
     have hb2 : a1 ≤ s.size := by omega
     have HPT := Lib.hid (show a1 + 1 = s.size - t.length from by omega)
     have HADD := Lib.hid (show ((a1 : Int) + 1) = ((a1 + 1 : Nat) : Int) from by omega)
     have HE := Lib.hid h34
     clear hp1 hat1 hq1 hT hin hpos hle hcf h34
     go_wp2_with fail
     go_quiet (fail)
     go_wp2_with fail
     go_quiet (fail)
     go_upto_region 10 with fail
     rw [HADD.out]
     rename_i n1 K1 a1'
     have hp5 : RB ((wr.drewN (n1 + nq)).setCell ⟨b, 1, none⟩ (.int .i64 ((a1 + 1 : Nat) : Int))) b s (a1 + 1) (-1) := RB.at (BoxL.keep HP3.out (Below.selfN _ _)) _
     have ht5 : Turned (fun c => c = b) wr ((wr.drewN (n1 + nq)).setCell ⟨b, 1, none⟩ (.int .i64 ((a1 + 1 : Nat) : Int))) := (Turned.of_below (Below.selfN _ _)).next (Turned.set _ _ _ rfl)
     generalize (wr.drewN (n1 + nq)).setCell ⟨b, 1, none⟩ (.int .i64 ((a1 + 1 : Nat) : Int)) = W5 at hp5 ht5 ⊢
     have HP5 := Lib.hid hp5
     have HT5 := Lib.hid (HTW.out.next ht5)
     have HB7 := Lib.hid (show Box5 W5 w.heap.size 33 (.int .i64 0) (.int .i64 0) (.int .i64 0) (.string ⟨#[]⟩) (.slice none 0 0) from (ht5.block _ HBX.out.lt hne).trans HBX.out)
     have f0 := hp5.cell 0 rfl
     have f1 := hp5.cell 1 rfl
     have fl := hp5.lt
     clear hp5 ht5 c0 d1 z1 dl
     refine wp_region_quiet_class (Below W5.heap.size W5) 12 (by kernel_rfl) (by kernel_rfl) ((Below.refl W5.heap.size W5).drew) ?_
     intro T' _ W HW HW2
     have g0 : ∀ t, (W t).cell? _ = _ := fun t => ((HW t).cell (p := ⟨b, 0, none⟩) fl).trans f0
     have g1 : ∀ t, (W t).cell? _ = _ := fun t => ((HW t).cell (p := ⟨b, 1, none⟩) fl).trans f1
     have HWH := Lib.hid HW
     clear HW HW2 f0 f1
     simp only [List.take_succ_cons, List.take_zero, List.drop_succ_cons, List.drop_zero]
     repeat (go_big_quiet_step (fail))
     refine wpQuiet_nil ?_
     intro t
     have hbx : Box5 (W t) w.heap.size 33 (.int .i64 0) (.int .i64 0) (.int .i64 0) (.string ⟨#[]⟩) (.slice none 0 0) := ((HWH.out t).block _ HB7.out.lt).trans HB7.out
     obtain ⟨q0, q1, q2, q3, q4⟩ := hbx.cells
     obtain ⟨z0, z2, z3, z4, z5⟩ := hbx.free
     have hgl := hbx.lt
     have HB8 := Lib.hid hbx
     clear hbx
     go_wp2_with fail
     have HR5 := Lib.hid (HB8.out.set (.int .i64 3) (.int .i64 0) (.int .i64 0) (.string ⟨T.toArray⟩) (.slice none 0 0))
     obtain ⟨r0, r1, r2, r3, r4⟩ := HR5.out.cells
     refine bodyPost_ret (v := .agg #[.int .i64 3, .int .i64 0, .int .i64 0, .string ⟨T.toArray⟩, .slice none 0 0]) (by simp [results, Tryz.results80, go_sem, r0, r1, r2, r3, r4]) rfl ?_
     rw [HR.out, HE.out]
     exact rdat_leaf 3 0 0 ⟨T.toArray⟩ HT5.out (HWH.out t) (by rw [← HPT.out]; exact HP5.out) hne (by omega) (by omega) (by omega) (by simp [ByteArray.size]; omega)
    ·have m1 : ((c.toNat : Int) != 34) = true := (u8_ne c 34).trans (by rw [decide_eq_false h34]; rfl)
     have hbd := strByte_not hcf h34
     have HE := Lib.hid h34
     have HEP := Lib.hid hpos
     clear hp1 hat1 hq1 hT hin hpos hle hcf h34 hla
     rcases hbd with h | h | h
     case' inl =>
      have m2 : decide (c.toNat < 32) = true := by simp; omega
      have m2' : decide ((c.toNat : Int) < 32) = true := by simp; omega
     case' inr.inl =>
      have m2 : decide (c.toNat < 32) = false := by simp; omega
      have m2' : decide ((c.toNat : Int) < 32) = false := by simp; omega
      have m3 : decide (126 < c.toNat) = true := by simp; omega
      have m3' : decide ((126 : Int) < (c.toNat : Int)) = true := by simp; omega
     case' inr.inr =>
      have m2 : decide (c.toNat < 32) = false := by simp; omega
      have m2' : decide ((c.toNat : Int) < 32) = false := by simp; omega
      have m3 : decide (126 < c.toNat) = false := by simp; omega
      have m3' : decide ((126 : Int) < (c.toNat : Int)) = false := by simp; omega
      have m4 : ((c.toNat : Int) == 92) = true := by simp; omega
     all_goals
      go_wp2_with fail
      go_quiet (fail)
      go_wp2_with fail
      go_quiet (fail)
      go_wp2_with (first | (go_at_call 43; refine (rfail_to _ HP3.out HBX.out hne _).mono ?_; rintro e' w3 ⟨rfl, hrb, ht3, hbx3⟩; have HRB := Lib.hid hrb; have HT3 := Lib.hid ht3; obtain ⟨q0, q1, q2, q3, q4⟩ := hbx3.cells; obtain ⟨z0, z2, z3, z4, z5⟩ := hbx3.free; have hgl := hbx3.lt; have HBX3 := Lib.hid hbx3; clear hrb ht3 hbx3))
      have HR5 := Lib.hid (HBX3.out.set (.int .i64 4) (.int .i64 0) (.int .i64 0) (.string ⟨#[]⟩) (.slice none 0 0))
      obtain ⟨r0, r1, r2, r3, r4⟩ := HR5.out.cells
      refine bodyPost_ret (v := .agg #[.int .i64 4, .int .i64 0, .int .i64 0, .string ⟨#[]⟩, .slice none 0 0]) (by simp [results, Tryz.results80, go_sem, r0, r1, r2, r3, r4]) rfl ?_
      rw [HR.out]
      unfold Rd.strQ
      simp only
      rw [if_neg HE.out]
      exact rdat_fail (HTW.out.next HT3.out) (by have := HRB.out; rw [if_pos (by decide), HEP.out] at this; exact this) hne
end
section
open Go Go.RowKit
def RFits {α : Type} (s : ByteArray) (res : Rd.Res α) (x : α) (a : Nat) (d : Int) : Prop :=
 match res with
 | .ok y q => x = y ∧ a = s.size - q.length ∧ d = -1
 | .bad q => d = ((s.size - q.length : Nat) : Int)
def RUni (b : Nat) (s : ByteArray) (res : Rd.Res Dat) (w : World) (e : Ending) (w' : World) : Prop :=
 ∃ (x : Dat) (k n d : Int) (st : ByteArray) (o : Option Addr) (len cap a' : Nat) (m : Int), e = .returned (.agg #[.int .i64 k, .int .i64 n, .int .i64 d, .string st, .slice o len cap]) ∧ RepD (hide w' (Lo w.heap.size)) w'.heap.size x (.agg #[.int .i64 k, .int .i64 n, .int .i64 d, .string st, .slice o len cap]) ∧ RB w' b s a' m ∧ Turned (fun c => c = b) w w' ∧ RFits s res x a' m
theorem RDat.uni {b : Nat} {s : ByteArray} {res : Rd.Res Dat} {w : World} {e : Ending} {w' : World} (h : RDat b s res w e w') : RUni b s res w e w' := by
 cases res with
 | ok x q =>
  obtain ⟨v, he, hr, hb, ht⟩ := h
  obtain ⟨k, n, d, st, o, len, cap, rfl⟩ := agg_of hr
  exact ⟨x, k, n, d, st, o, len, cap, _, _, he, hr, hb, ht, rfl, rfl, rfl⟩
 | bad q =>
  obtain ⟨v, x, a', he, hr, hb, ht⟩ := h
  obtain ⟨k, n, d, st, o, len, cap, rfl⟩ := agg_of hr
  exact ⟨x, k, n, d, st, o, len, cap, _, _, he, hr, hb, ht, rfl⟩
def RSeq (b : Nat) (s : ByteArray) (res : Rd.Res (List Dat × Dat)) (w : World) (e : Ending) (w' : World) : Prop :=
 ∃ (l : List Dat) (x : Dat) (o' : Option Addr) (len' cap' : Nat) (k n d : Int) (st : ByteArray) (o : Option Addr) (len cap a' : Nat) (m : Int), e = .returned (.tuple #[.slice o' len' cap', .agg #[.int .i64 k, .int .i64 n, .int .i64 d, .string st, .slice o len cap]]) ∧ RepS (hide w' (Lo w.heap.size)) w'.heap.size l (.slice o' len' cap') ∧ RepD (hide w' (Lo w.heap.size)) w'.heap.size x (.agg #[.int .i64 k, .int .i64 n, .int .i64 d, .string st, .slice o len cap]) ∧ RB w' b s a' m ∧ Turned (fun c => c = b) w w' ∧ RFits s res (l, x) a' m
theorem RFits.map {α β : Type} {s : ByteArray} {res : Rd.Res α} {x : α} {a : Nat} {d : Int} (h : RFits s res x a d) (f : α → β) : RFits s (res.map f) (f x) a d := by
 cases res with
 | ok y q => exact ⟨congrArg f h.1, h.2⟩
 | bad q => exact h
def RDatOk (n : Nat) : Prop := ∀ (b : Nat) (s : ByteArray) (a : Nat) (r : List UInt8) (w : World) (dp : Int), r.length < n → RB w b s a (-1) → Rd.At s a r → s.size ≤ 65536 →
 Calls Tryz.prog 42 #[.pointer (some ⟨b, 0, none⟩), .int .i64 dp] w (RUni b s (Rd.D r) w)
def RSeqOk (n : Nat) : Prop := ∀ (b : Nat) (s : ByteArray) (a : Nat) (r : List UInt8) (w : World) (p : Bool) (dp : Int), r.length < n → RB w b s a (-1) → Rd.At s a r → s.size ≤ 65536 →
 Calls Tryz.prog 82 #[.pointer (some ⟨b, 0, none⟩), .bool p, .int .i64 dp] w (RSeq b s (Rd.S p false r) w)
end
section
open Go Go.RowKit
theorem rseq_vec {b : Nat} {s : ByteArray} {res : Rd.Res (List Dat × Dat)} {res' : Rd.Res Dat} {l : List Dat} {x : Dat} {w W2 w2 W4 : World} {o' : Option Addr} {len' cap' a' : Nat} {m : Int} (hres : res' = res.map fun p => .mk 7 0 0 ⟨#[]⟩ p.1) (hne : w.heap.size ≠ b)
  (hlt : w.heap.size < W2.heap.size) (hT : Turned (fun c => c = b) w W2) (hr : RepS (hide w2 (Lo W2.heap.size)) w2.heap.size l (.slice o' len' cap')) (hB : RB w2 b s a' m) (hT2 : Turned (fun c => c = b) W2 w2) (hf : RFits s res (l, x) a' m) (h4 : Below w2.heap.size w2 W4) :
  RUni b s res' w (.returned (.agg #[.int .i64 7, .int .i64 0, .int .i64 0, .string ⟨#[]⟩, .slice o' len' cap'])) (set5 W4 w.heap.size (.int .i64 7) (.int .i64 0) (.int .i64 0) (.string ⟨#[]⟩) (.slice o' len' cap')) := by
 subst hres
 have hs2 := hT2.size
 have hs4 := h4.size
 refine ⟨.mk 7 0 0 ⟨#[]⟩ l, _, _, _, _, _, _, _, a', m, rfl, RepD.shut (by omega) (by omega) (by omega) (by decide) ?_, ?_, ?_, hf.map _⟩
 ·refine hr.shown (((Shown.below h4).trans (Shown.five W4 (S := Lo W2.heap.size) hlt _ _ _ _ _)).trans (Shown.less _ fun q _ hq => ?_)) (by rw [set5_size]; exact hs4)
  unfold Lo at hq ⊢; omega
 ·exact (set5_heap _ _ _ _ _ _ _ (Ne.symm hne)).trans (BoxL.keep hB h4)
 ·exact turned_low ((hT.next hT2).next (Turned.of_below h4)) (set5_below _ _ _ _ _ _ _ _ (Nat.le_refl _))
theorem rhash_any (n : Nat) (H : RSeqOk n) (b : Nat) (s : ByteArray) (a : Nat) (t0 : List UInt8) (w : World) (dp : Int) (hn : t0.length ≤ n) (hp : RB w b s a (-1)) (hat0 : Rd.At s a (35 :: t0)) (hs : s.size ≤ 65536) :
  Calls Tryz.prog 81 #[.pointer (some ⟨b, 0, none⟩), .int .i64 dp] w (RUni b s (Rd.hashF Rd.S t0) w) := by
 have hat := hat0.cons
 have hal : a < s.size := by have := hat0.1; simp only [List.length_cons] at this; omega
 have hpos := hat.pos
 have HP0 := Lib.hid hp
 have hb := hp.lt
 have HADD := Lib.hid (show ((a : Int) + 1) = ((a + 1 : Nat) : Int) from by omega)
 clear hp hat0
 obtain ⟨W0, hW0⟩ : ∃ W0, w.alloc (.cells #[.int .i64 0, .int .i64 0, .int .i64 0, .string ⟨#[]⟩, .slice none 0 0] 33) = W0 := ⟨_, rfl⟩
 have HW0 := Lib.hid hW0
 have HB5 := Lib.hid (show Box5 W0 w.heap.size 33 (.int .i64 0) (.int .i64 0) (.int .i64 0) (.string ⟨#[]⟩) (.slice none 0 0) from by rw [← hW0]; exact Box5.new w _ _ _ _ _ _)
 have HP1 := Lib.hid (show RB W0 b s a (-1) from by rw [← hW0]; exact BoxL.alloc HP0.out _)
 have HT0 := Lib.hid (show Turned (fun c => c = b) w W0 from by rw [← hW0]; exact Turned.of_below (Below.one _ _))
 have c1 := HP1.out.cell 1 rfl
 have y1 := HP1.out.free 1
 have hl1 := HP1.out.lt
 clear hW0
 go_enter Tryz.func81, Tryz.ntmps81
 go_upto_region 1 with fail
 rw [HW0.out]
 go_upto_region 2 with fail
 rw [HADD.out]
 have hP2 : RB (W0.setCell ⟨b, 1, none⟩ (.int .i64 ((a + 1 : Nat) : Int))) b s (a + 1) (-1) := RB.at HP1.out _
 have hT2 : Turned (fun c => c = b) W0 (W0.setCell ⟨b, 1, none⟩ (.int .i64 ((a + 1 : Nat) : Int))) := Turned.set _ _ _ rfl
 generalize W0.setCell ⟨b, 1, none⟩ (.int .i64 ((a + 1 : Nat) : Int)) = W1 at hP2 hT2 ⊢
 have HP2 := Lib.hid hP2
 have HT1 := Lib.hid (HT0.out.next hT2)
 have hne : w.heap.size ≠ b := by omega
 have HB6 := Lib.hid (show Box5 W1 w.heap.size 33 (.int .i64 0) (.int .i64 0) (.int .i64 0) (.string ⟨#[]⟩) (.slice none 0 0) from (hT2.block _ HB5.out.lt hne).trans HB5.out)
 have d0 := hP2.cell 0 rfl
 have d1 := hP2.cell 1 rfl
 have d2 := hP2.free 1
 have e1 := hP2.lt
 clear hP2 hT2 c1 y1 hl1
 cases t0 with
 | nil =>
  have ha1 : a + 1 = s.size := by simpa using hpos
  have heq : ((a : Int) + 1 == (s.size : Int)) = true := by simp; omega
  have HE := Lib.hid ha1
  clear hat hpos ha1
  go_quiet (fail)
  go_wp2_with (first | (go_at_call 43; refine (rfail_to _ HP2.out HB6.out hne _).mono ?_; rintro e' w3 ⟨rfl, hrb, ht3, hbx3⟩; have HRB := Lib.hid hrb; have HT3 := Lib.hid ht3; obtain ⟨q0, q1, q2, q3, q4⟩ := hbx3.cells; obtain ⟨z0, z2, z3, z4, z5⟩ := hbx3.free; have hgl := hbx3.lt; have HBX3 := Lib.hid hbx3; clear hrb ht3 hbx3))
  have HR5 := Lib.hid (HBX3.out.set (.int .i64 4) (.int .i64 0) (.int .i64 0) (.string ⟨#[]⟩) (.slice none 0 0))
  obtain ⟨r0, r1, r2, r3, r4⟩ := HR5.out.cells
  refine bodyPost_ret (v := .agg #[.int .i64 4, .int .i64 0, .int .i64 0, .string ⟨#[]⟩, .slice none 0 0]) (by simp [results, Tryz.results81, go_sem, r0, r1, r2, r3, r4]) rfl ?_
  exact (rdat_fail (q := []) (HT1.out.next HT3.out) (by have := HRB.out; rw [if_pos (by decide)] at this; rw [show ((s.size - ([] : List UInt8).length : Nat) : Int) = (a : Int) + 1 from by rw [← HE.out]; simp]; exact this) hne).uni
 | cons c t =>
  obtain ⟨hlt, hget⟩ := hat.get
  have heq : ((a : Int) + 1 == (s.size : Int)) = false := by simp; omega
  have q1 : ((c.toNat : Int) == 116) = decide (c = 116) := u8_eq c 116
  have q2 : ((c.toNat : Int) == 102) = decide (c = 102) := u8_eq c 102
  have q3 : ((c.toNat : Int) == 118) = decide (c = 118) := u8_eq c 118
  have q4 : ((c.toNat : Int) == 40) = decide (c = 40) := u8_eq c 40
  simp only [List.length_cons] at hpos hn
  have hal2 : a + 2 ≤ s.size := by have := hat.1; simp only [List.length_cons] at this; omega
  have HPT := Lib.hid (show a + 2 = s.size - t.length from by have := hat.1; simp only [List.length_cons] at this; omega)
  have HPS := Lib.hid (show a + 1 = s.size - (c :: t).length from hat.pos)
  have htl : t.length < n := by omega
  have HAT := Lib.hid hat.cons
  clear hat hpos
  go_quiet (fail)
  go_upto_region 4 with fail
  go_quiet (fail)
  go_upto_region 6 with fail
  rw [show ((a : Int) + 1 + 1) = ((a + 2 : Nat) : Int) from by omega]
  rename_i n1 K1 ak1 K2 ak2
  have hP3 : RB ((W1.drewN (n1 + nq)).setCell ⟨b, 1, none⟩ (.int .i64 ((a + 2 : Nat) : Int))) b s (a + 2) (-1) := RB.at (RB.drewN HP2.out _) _
  have hT3 : Turned (fun c => c = b) W1 ((W1.drewN (n1 + nq)).setCell ⟨b, 1, none⟩ (.int .i64 ((a + 2 : Nat) : Int))) := (Turned.of_below (Below.selfN _ _)).next (Turned.set _ _ _ rfl)
  generalize (W1.drewN (n1 + nq)).setCell ⟨b, 1, none⟩ (.int .i64 ((a + 2 : Nat) : Int)) = W2 at hP3 hT3 ⊢
  have HP3 := Lib.hid hP3
  have HT3 := Lib.hid (HT1.out.next hT3)
  have HB7 := Lib.hid (show Box5 W2 w.heap.size 33 (.int .i64 0) (.int .i64 0) (.int .i64 0) (.string ⟨#[]⟩) (.slice none 0 0) from (hT3.block _ HB6.out.lt hne).trans HB6.out)
  have f1 := hP3.cell 1 rfl
  have fl := hP3.lt
  obtain ⟨p0, p1, p2, p3, p4⟩ := HB7.out.cells
  obtain ⟨z0, z1, z2, z3, z4⟩ := HB7.out.free
  have pl := HB7.out.lt
  clear hP3 hT3 d0 d1 d2 e1
  have hww : IntKind.i64.wrap ((a : Int) + 2 - 1) = ((a + 1 : Nat) : Int) := by simp [IntKind.wrap, IntKind.bits, IntKind.signed]; omega
  by_cases c1 : c = 116
  ·rw [decide_eq_true c1] at q1
   have HE := Lib.hid (show Rd.hashF Rd.S (c :: t) = .ok (.mk 1 1 0 ⟨#[]⟩ []) t from by subst c1; rfl)
   clear c1
   go_wp2_with fail
   have HR5 := Lib.hid (HB7.out.set (.int .i64 1) (.int .i64 1) (.int .i64 0) (.string ⟨#[]⟩) (.slice none 0 0))
   obtain ⟨r0, r1, r2, r3, r4⟩ := HR5.out.cells
   refine bodyPost_ret (v := .agg #[.int .i64 1, .int .i64 1, .int .i64 0, .string ⟨#[]⟩, .slice none 0 0]) (by simp [results, Tryz.results81, go_sem, r0, r1, r2, r3, r4]) rfl ?_
   rw [HE.out]
   exact (rdat_leaf 1 1 0 ⟨#[]⟩ HT3.out (Below.self W2) (by rw [← HPT.out]; exact HP3.out) hne (by omega) (by omega) (by omega) (by decide)).uni
  rw [decide_eq_false c1] at q1
  by_cases c2 : c = 102
  ·rw [decide_eq_true c2] at q2
   have HE := Lib.hid (show Rd.hashF Rd.S (c :: t) = .ok (.mk 1 0 0 ⟨#[]⟩ []) t from by subst c2; rfl)
   clear c1 c2
   go_wp2_with fail
   have HR5 := Lib.hid (HB7.out.set (.int .i64 1) (.int .i64 0) (.int .i64 0) (.string ⟨#[]⟩) (.slice none 0 0))
   obtain ⟨r0, r1, r2, r3, r4⟩ := HR5.out.cells
   refine bodyPost_ret (v := .agg #[.int .i64 1, .int .i64 0, .int .i64 0, .string ⟨#[]⟩, .slice none 0 0]) (by simp [results, Tryz.results81, go_sem, r0, r1, r2, r3, r4]) rfl ?_
   rw [HE.out]
   exact (rdat_leaf 1 0 0 ⟨#[]⟩ HT3.out (Below.self W2) (by rw [← HPT.out]; exact HP3.out) hne (by omega) (by omega) (by omega) (by decide)).uni
  rw [decide_eq_false c2] at q2
  by_cases c3 : c = 118
  ·rw [decide_eq_true c3] at q3
   have HE := Lib.hid (show Rd.hashF Rd.S (c :: t) = .ok (.mk 5 0 0 ⟨#[]⟩ []) t from by subst c3; rfl)
   clear c1 c2 c3
   go_wp2_with fail
   have HR5 := Lib.hid (HB7.out.set (.int .i64 5) (.int .i64 0) (.int .i64 0) (.string ⟨#[]⟩) (.slice none 0 0))
   obtain ⟨r0, r1, r2, r3, r4⟩ := HR5.out.cells
   refine bodyPost_ret (v := .agg #[.int .i64 5, .int .i64 0, .int .i64 0, .string ⟨#[]⟩, .slice none 0 0]) (by simp [results, Tryz.results81, go_sem, r0, r1, r2, r3, r4]) rfl ?_
   rw [HE.out]
   exact (rdat_leaf 5 0 0 ⟨#[]⟩ HT3.out (Below.self W2) (by rw [← HPT.out]; exact HP3.out) hne (by omega) (by omega) (by omega) (by decide)).uni
  rw [decide_eq_false c3] at q3
  by_cases c4 : c = 40
  ·rw [decide_eq_true c4] at q4
   have HE := Lib.hid (show Rd.hashF Rd.S (c :: t) = (Rd.S false false t).map (fun p => .mk 7 0 0 ⟨#[]⟩ p.1) from by subst c4; rfl)
   have HCL := Lib.hid (H b s (a + 2) t W2 false dp htl HP3.out HAT.out hs)
   clear c1 c2 c3 c4
   go_upto_region 15 with (first | (go_at_call 82; refine HCL.out.mono ?_; rintro e' w2 ⟨l0, y, o3, len3, cap3, k9, n9, d9, s9, o9, len9, cap9, a9, m9, rfl, hrs, hrep, hrb, ht2, hf⟩))
   have hb4 : Box5 (w2.alloc (.cells #[.int .i64 k9, .int .i64 n9, .int .i64 d9, .string s9, .slice o9 len9 cap9] 33)) w.heap.size 33 (.int .i64 0) (.int .i64 0) (.int .i64 0) (.string ⟨#[]⟩) (.slice none 0 0) := Box5.alloc (show Box5 w2 w.heap.size 33 (.int .i64 0) (.int .i64 0) (.int .i64 0) (.string ⟨#[]⟩) (.slice none 0 0) from (ht2.block _ HB7.out.lt hne).trans HB7.out) _
   have h4 : Below w2.heap.size w2 (w2.alloc (.cells #[.int .i64 k9, .int .i64 n9, .int .i64 d9, .string s9, .slice o9 len9 cap9] 33)) := Below.one _ _
   generalize w2.alloc (.cells #[.int .i64 k9, .int .i64 n9, .int .i64 d9, .string s9, .slice o9 len9 cap9] 33) = W4 at hb4 h4 ⊢
   clear p0 p1 p2 p3 p4 z0 z1 z2 z3 z4 pl f1 fl
   obtain ⟨p0, p1, p2, p3, p4⟩ := hb4.cells
   obtain ⟨z0, z1, z2, z3, z4⟩ := hb4.free
   have pl := hb4.lt
   have HB8 := Lib.hid hb4
   have H4 := Lib.hid h4
   have HRS := Lib.hid hrs
   have HRB := Lib.hid hrb
   have HT2 := Lib.hid ht2
   have HF := Lib.hid hf
   have HLT := Lib.hid HB7.out.lt
   clear hb4 h4 hrs hrb ht2 hf hrep
   go_wp2_with fail
   have HR5 := Lib.hid (HB8.out.set (.int .i64 7) (.int .i64 0) (.int .i64 0) (.string ⟨#[]⟩) (.slice o3 len3 cap3))
   obtain ⟨r0, r1, r2, r3, r4⟩ := HR5.out.cells
   refine bodyPost_ret (v := .agg #[.int .i64 7, .int .i64 0, .int .i64 0, .string ⟨#[]⟩, .slice o3 len3 cap3]) (by simp [results, Tryz.results81, go_sem, r0, r1, r2, r3, r4]) rfl ?_
   rw [HE.out]
   exact rseq_vec rfl hne HLT.out HT3.out HRS.out HRB.out HT2.out HF.out H4.out
  ·rw [decide_eq_false c4] at q4
   have HE := Lib.hid (show Rd.hashF Rd.S (c :: t) = .bad (c :: t) from by simp only [Rd.hashF]; rw [if_neg c1, if_neg c2, if_neg c3, if_neg c4])
   clear c1 c2 c3 c4
   have HCF : ∀ p : Int, Calls Tryz.prog 43 #[.pointer (some ⟨b, 0, none⟩), .int .i64 p] W2 fun e w' => e = .returned (.agg #[.int .i64 4, .int .i64 0, .int .i64 0, .string ⟨#[]⟩, .slice none 0 0]) ∧ RB w' b s (a + 2) p ∧ Turned (fun c => c = b) W2 w' ∧ Box5 w' w.heap.size 33 (.int .i64 0) (.int .i64 0) (.int .i64 0) (.string ⟨#[]⟩) (.slice none 0 0) := fun p => rfail_to 0 HP3.out HB7.out hne p
   have HCF := Lib.hid HCF
   go_wp2_with (first | (go_at_call 43; refine (HCF.out _).mono ?_; rintro e' w3 ⟨rfl, hrb, ht3, hbx3⟩; have HRB := Lib.hid hrb; have HT4 := Lib.hid ht3; clear p0 p1 p2 p3 p4 z0 z1 z2 z3 z4 pl; obtain ⟨p0, p1, p2, p3, p4⟩ := hbx3.cells; obtain ⟨z0, z1, z2, z3, z4⟩ := hbx3.free; have pl := hbx3.lt; have HBX3 := Lib.hid hbx3; clear hrb ht3 hbx3))
   have HR5 := Lib.hid (HBX3.out.set (.int .i64 4) (.int .i64 0) (.int .i64 0) (.string ⟨#[]⟩) (.slice none 0 0))
   obtain ⟨r0, r1, r2, r3, r4⟩ := HR5.out.cells
   refine bodyPost_ret (v := .agg #[.int .i64 4, .int .i64 0, .int .i64 0, .string ⟨#[]⟩, .slice none 0 0]) (by simp [results, Tryz.results81, go_sem, r0, r1, r2, r3, r4]) rfl ?_
   rw [HE.out]
   exact (rdat_fail (q := c :: t) (HT3.out.next HT4.out) (by rw [← HPS.out]; exact HRB.out) hne).uni
end
end Go.Proofs.YtpcneeekmhdhgaaGreatDoor

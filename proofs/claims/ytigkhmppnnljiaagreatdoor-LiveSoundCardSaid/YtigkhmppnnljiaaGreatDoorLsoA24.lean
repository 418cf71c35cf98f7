/-
  What the proofs lean on: Solved.
-/
import Derived.WalkMore
import Derived.Test.YtigkhmppnnljiaaGreatDoorLsoA22
set_option maxRecDepth 100000
set_option maxHeartbeats 16000000
namespace Go.Proofs.YtigkhmppnnljiaaGreatDoor
section
open Go.RowKit
def CodeOk (code : List Ins) (R : Nat) : Prop :=
 (∀ x ∈ code, 0 ≤ x.op ∧ x.op ≤ 22) ∧ (∀ x ∈ code, ∀ r ∈ Unt.named x, 0 ≤ r ∧ r < (R : Int)) ∧ (∀ x ∈ code, -1 ≤ Unt.gives x ∧ Unt.gives x < (R : Int)) ∧ Peep.Closed code ∧ Inside code ∧ ∀ x ∈ code, x.l.length ≤ 1000
theorem info_set : (Tryz.prog.info? 128).map (fun i => (i.zero, i.size, i.bytes)) = some (some (.slice none 0 0), 1, 24) := by kernel_rfl
theorem info_u64 : (Tryz.prog.info? 165).map (fun i => (i.zero, i.size, i.bytes)) = some (some (.int .u64 0), 1, 8) := by kernel_rfl
theorem succs_len (x : Ins) (k : Nat) : (Peep.succs x k).length ≤ 2 := by
 unfold Peep.succs
 repeat' split
 all_goals simp
theorem gdrew {A B : World} {row : Option Nat} (h : A.drew.grownBy B row) : A.grownBy B row := ⟨h.os, h.tape, h.output, h.size, h.block⟩
theorem named_len (x : Ins) : (Unt.named x).length ≤ x.l.length + 2 := by
 unfold Unt.named
 repeat' split
 all_goals simp
 all_goals omega
theorem cons_eq {α : Type} {a b : α} {l l' : List α} (h : a = b) (h' : l = l') : a :: l = b :: l' := by rw [h, h']
theorem lt10 {C : Nat → Prop} (h0 : C 0) (h1 : C 1) (h2 : C 2) (h3 : C 3) (h4 : C 4) (h5 : C 5) (h6 : C 6) (h7 : C 7) (h8 : C 8) (h9 : C 9) : ∀ i, i < 10 → C i
 | 0, _ => h0 | 1, _ => h1 | 2, _ => h2 | 3, _ => h3 | 4, _ => h4 | 5, _ => h5 | 6, _ => h6 | 7, _ => h7 | 8, _ => h8 | 9, _ => h9
 | i + 10, h => by omega
theorem dep_on {l : Array Edge} {listed : Array Bool} (h : ∀ e ∈ l, Region.binds .any e = true → listed.getD e.on false = true) (j : Nat) (hB : (l.any fun e => Region.binds .any e && e.on == j) = true) : listed.getD j false = true := by
 rw [Array.any_eq_true'] at hB
 obtain ⟨e, he, hb⟩ := hB
 simp only [Bool.and_eq_true, beq_iff_eq] at hb
 rw [← hb.2]; exact h e he hb.1
theorem RegI.d1 {w W0 W : World} {n : Nat} {va vb : Value} {A B : List Nat} {L : Nat → Bool} {x0 x1 x2 x3 x4 y0 y1 y2 y3 y4 : Value} (h : RegI w W0 n va vb A B L x0 x1 x2 x3 x4 y0 y1 y2 y3 y4 W) (hL : L 1 = true) : x1 = .int .i64 n := by
 obtain ⟨_, _, _, _, _, _, _, h1, _⟩ := h
 exact h1.2.1 hL
theorem RegI.d6 {w W0 W : World} {n : Nat} {va vb : Value} {A B : List Nat} {L : Nat → Bool} {x0 x1 x2 x3 x4 y0 y1 y2 y3 y4 : Value} (h : RegI w W0 n va vb A B L x0 x1 x2 x3 x4 y0 y1 y2 y3 y4 W) (hL : L 6 = true) : y1 = .int .i64 n := by
 obtain ⟨_, _, _, _, _, _, _, _, h2, _⟩ := h
 exact h2.2.1 hL
theorem RegI.d2 {w W0 W : World} {n : Nat} {va vb : Value} {A B : List Nat} {L : Nat → Bool} {x0 x1 x2 x3 x4 y0 y1 y2 y3 y4 : Value} (h : RegI w W0 n va vb A B L x0 x1 x2 x3 x4 y0 y1 y2 y3 y4 W) (hL : L 2 = true) : ∃ c, x2 = hdV n c := by
 obtain ⟨_, _, _, _, _, _, _, h1, _⟩ := h
 obtain ⟨b, _, h⟩ := h1.2.2.1 hL
 exact ⟨b, h⟩
theorem RegI.d7 {w W0 W : World} {n : Nat} {va vb : Value} {A B : List Nat} {L : Nat → Bool} {x0 x1 x2 x3 x4 y0 y1 y2 y3 y4 : Value} (h : RegI w W0 n va vb A B L x0 x1 x2 x3 x4 y0 y1 y2 y3 y4 W) (hL : L 7 = true) : ∃ c, y2 = hdV n c := by
 obtain ⟨_, _, _, _, _, _, _, _, h2, _⟩ := h
 obtain ⟨b, _, h⟩ := h2.2.2.1 hL
 exact ⟨b, h⟩
theorem RegI.start {w W : World} {n : Nat} {va vb : Value} {A B : List Nat} {L : Nat → Bool} {x0 x1 x2 x3 x4 y0 y1 y2 y3 y4 : Value} (h : Sol w n W va vb A B (fun _ _ => false)) (hL : ∀ j, L j = false) : RegI w W n va vb A B L x0 x1 x2 x3 x4 y0 y1 y2 y3 y4 W.drew := by
 obtain ⟨h1, h2, h3, h4, h5⟩ := h
 refine ⟨va, vb, A, B, [], [], ⟨h1.drew, Nat.le_refl _, h2, h3, h4, h5, fun b hb => (h5.2 b hb).2.lt, fun b hb => (by cases hb), fun b hb => (by cases hb)⟩, ?_, ?_, ?_⟩
 ·simp only [ChainL, hL]; simp
 ·simp only [ChainL, hL]; simp
 ·simp [hL]
theorem solved_any (p : Proc) (c0 c1 c2 c3 c4 : Value) (B R n : Nat) (w : World) (hp : ProcR w B p [c0, c1, c2, c3, c4]) (hB : B ≤ w.heap.size) (hR : p.regs = (R : Int)) (hR2 : R ≤ 20000) (hn : R / 64 + 1 = n) (hok : CodeOk p.code R) (hm : p.code.length ≤ 1000) :
  Calls Tryz.prog 80 #[.agg #[c0, c1, c2, c3, c4]] w fun e w' => ∃ w1 va vb A Bs P, e = .returned (.tuple #[va, vb]) ∧ Sol w1 n w' va vb A Bs P ∧ Below w.heap.size w w' ∧ A.length = p.code.length ∧ Bs.length = p.code.length ∧
   (∀ (r k a : Nat), A[k]? = some a → (P a r = true ↔ Live.Need p.code r k)) ∧ (∀ (r k b : Nat) (x : Ins), p.code[k]? = some x → Bs[k]? = some b → (P b r = true ↔ ∃ j ∈ Peep.succs x k, Live.Need p.code r j)) := by
 obtain ⟨args, rest, regs, code, alive⟩ := p
 dsimp only at hR
 subst hR
 obtain ⟨sl, al, he, _, _, hsl, _⟩ := hp
 simp only [List.cons.injEq, and_true] at he
 obtain ⟨rfl, rfl, rfl, rfl, rfl⟩ := he
 obtain ⟨oc, m, cc, rfl⟩ := hsl.form
 dsimp only at hm hsl hok
 obtain ⟨hlen, hcap, hmax⟩ := hsl.lens
 have HV := Lib.hid hsl
 have HL := Lib.hid hlen
 have hm' : m ≤ 1000 := by omega
 have hni : (R : Int) / 64 + 1 = (n : Int) := by omega
 have hn2 : n ≤ 400 := by omega
 have HN := Lib.hid hn
 have HOK := Lib.hid hok
 have hmk := run_make_row' (P := Tryz.prog) 128 165 (.int .u64 0) 8 Tryz.underlying128 info_u64 rfl .i64 .i64 n (by omega) (by omega)
 obtain ⟨w1, hw1⟩ : ∃ w1, w.alloc (.cells #[.int .i64 args, .bool rest, .int .i64 R, .slice oc m cc, c4] 31) = w1 := ⟨_, rfl⟩
 have HS0 := Lib.hid (show Sol w1 n w1 (.slice none 0 0) (.slice none 0 0) [] [] (fun _ _ => false) from ⟨Below.refl _ _, World.ownsRow_nil _ _ _ _, World.ownsRow_nil _ _ _ _, .inl rfl, List.nodup_nil, fun b h => by simp at h⟩)
 have HBX0 := Lib.hid (show BoxL w1 w.heap.size 31 [.int .i64 args, .bool rest, .int .i64 R, .slice oc m cc, c4] from by rw [← hw1]; exact BoxL.new rfl _ _)
 have HB1 := Lib.hid (show Below w.heap.size w w1 from by rw [← hw1]; exact Below.one w _)
 have hsz1 : w1.heap.size = w.heap.size + 1 := by rw [← hw1]; simp
 have HW1 := Lib.hid hw1
 clear hsl hlen hn hok hw1
 go_enter Tryz.func80, Tryz.ntmps80
 go_wp2_with fail
 go_step3
 go_wp2_with fail
 rw [HW1.out]
 go_loopg [2, 3, 24] m (fun G v2 v3 i wr => ∃ (k : Nat) (A Bs : List Nat), G = m - k ∧ k ≤ m ∧ i = .int .i64 k ∧ Hid (A.length = k ∧ Bs.length = k) ∧ Hid (Sol w1 n wr v2 v3 A Bs (fun _ _ => false)))
 case atStart => exact ⟨0, [], [], rfl, by omega, rfl, ⟨rfl, rfl⟩, HS0⟩
 case round =>
  obtain ⟨k, A, Bs, rfl, hk, rfl, HLEN, HS⟩ := hrel
  clear HS0
  by_cases hkm : k < m
  ·go_upto_region 4 with fail
   have hra : ∀ g, u2.ownBlock = some g → g < wr.heap.size := fun g hg => (HS.out.2.1.lt g hg).2
   have hrb : ∀ g, u3.ownBlock = some g → g < wr.heap.size := fun g hg => (HS.out.2.2.1.lt g hg).2
   refine wp_region_inv 10 (fun listed a W => RegI w1 wr n u2 u3 A Bs (fun j => listed.getD j false) (a.tmps.getD 26 undef) (a.tmps.getD 27 undef) (a.tmps.getD 28 undef) (a.tmps.getD 29 undef) (a.tmps.getD 30 undef) (a.tmps.getD 31 undef) (a.tmps.getD 32 undef) (a.tmps.getD 33 undef) (a.tmps.getD 34 undef) (a.tmps.getD 35 undef) W) (by kernel_rfl) (by show monoB _ 10 123 = true; kernel_rfl) (RegI.start HS.out (fun j => getD_replicate_false _ _)) ?hops ?hend
   case hops =>
    intro i o hi
    revert o
    revert i
    refine lt10 ?_ ?_ ?_ ?_ ?_ ?_ ?_ ?_ ?_ ?_
    ·intro o ho listed a w2 hls hdf hsz hrest hI hun hdeps
     obtain rfl : _ = o := Option.some.inj ho
     have hup := fun j => listed_at (listed := listed) (i := 0) (j := j) (by rw [hls]; decide)
     replace hsz : a.tmps.size = 123 := hsz
     have hd0 : 26 < a.tmps.size := by rw [hsz]; decide
     have hx : a.tmps.getD 2 undef = u2 := hrest.at 2 (by kernel_rfl)
     refine wpList_move (s := 2) rfl rfl ⟨rfl, _, rfl, ?_⟩
     rw [hx]
     show RegI w1 wr n u2 u3 A Bs (fun j => (listed.setIfInBounds 0 true).getD j false) ((a.put (some 26) _).tmps.getD 26 undef) ((a.put (some 26) _).tmps.getD 27 undef) ((a.put (some 26) _).tmps.getD 28 undef) ((a.put (some 26) _).tmps.getD 29 undef) ((a.put (some 26) _).tmps.getD 30 undef) ((a.put (some 26) _).tmps.getD 31 undef) ((a.put (some 26) _).tmps.getD 32 undef) ((a.put (some 26) _).tmps.getD 33 undef) ((a.put (some 26) _).tmps.getD 34 undef) ((a.put (some 26) _).tmps.getD 35 undef) _
     simp only [put_getD hd0, Nat.reduceEqDiff, ↓reduceIte]
     exact RegI.s0 hI hup
    ·intro o ho listed a w2 hls hdf hsz hrest hI hun hdeps
     obtain rfl : _ = o := Option.some.inj ho
     have hup := fun j => listed_at (listed := listed) (i := 1) (j := j) (by rw [hls]; decide)
     replace hsz : a.tmps.size = 123 := hsz
     have hd1 : 27 < a.tmps.size := by rw [hsz]; decide
     have hx : a.tmps.getD 4 undef = .int .i64 n := hrest.at 4 (by kernel_rfl)
     refine wpList_move (s := 4) rfl rfl ⟨rfl, _, rfl, ?_⟩
     rw [hx]
     show RegI w1 wr n u2 u3 A Bs (fun j => (listed.setIfInBounds 1 true).getD j false) ((a.put (some 27) _).tmps.getD 26 undef) ((a.put (some 27) _).tmps.getD 27 undef) ((a.put (some 27) _).tmps.getD 28 undef) ((a.put (some 27) _).tmps.getD 29 undef) ((a.put (some 27) _).tmps.getD 30 undef) ((a.put (some 27) _).tmps.getD 31 undef) ((a.put (some 27) _).tmps.getD 32 undef) ((a.put (some 27) _).tmps.getD 33 undef) ((a.put (some 27) _).tmps.getD 34 undef) ((a.put (some 27) _).tmps.getD 35 undef) _
     simp only [put_getD hd1, Nat.reduceEqDiff, ↓reduceIte]
     exact RegI.s1 hI hup
    ·intro o ho listed a w2 hls hdf hsz hrest hI hun hdeps
     obtain rfl : _ = o := Option.some.inj ho
     have hup := fun j => listed_at (listed := listed) (i := 2) (j := j) (by rw [hls]; decide)
     replace hsz : a.tmps.size = 123 := hsz
     have hd2 : 28 < a.tmps.size := by rw [hsz]; decide
     refine wpList_make (s := 27) (w' := w2.alloc (.cells (madeCells #[.int .u64 0] n) 165)) (v := hdV n w2.heap.size) rfl rfl (RegI.d1 hI (dep_on hdeps 1 (by kernel_rfl))) (hmk w2) ⟨rfl, _, rfl, ?_⟩
     show RegI w1 wr n u2 u3 A Bs (fun j => (listed.setIfInBounds 2 true).getD j false) ((a.put (some 28) _).tmps.getD 26 undef) ((a.put (some 28) _).tmps.getD 27 undef) ((a.put (some 28) _).tmps.getD 28 undef) ((a.put (some 28) _).tmps.getD 29 undef) ((a.put (some 28) _).tmps.getD 30 undef) ((a.put (some 28) _).tmps.getD 31 undef) ((a.put (some 28) _).tmps.getD 32 undef) ((a.put (some 28) _).tmps.getD 33 undef) ((a.put (some 28) _).tmps.getD 34 undef) ((a.put (some 28) _).tmps.getD 35 undef) _
     simp only [put_getD hd2, Nat.reduceEqDiff, ↓reduceIte]
     exact RegI.s2 hI hup hun
    ·intro o ho listed a w2 hls hdf hsz hrest hI hun hdeps
     obtain rfl : _ = o := Option.some.inj ho
     have hup := fun j => listed_at (listed := listed) (i := 3) (j := j) (by rw [hls]; decide)
     replace hsz : a.tmps.size = 123 := hsz
     have hd3 : 29 < a.tmps.size := by rw [hsz]; decide
     have hd := dep_on hdeps 2 (by kernel_rfl)
     obtain ⟨c, hc⟩ : ∃ c, a.tmps.getD 28 undef = hdV n c := RegI.d2 hI hd
     refine wpList_build (s := 28) (n := n) (b := c) rfl rfl hc ⟨rfl, _, rfl, ?_⟩
     show RegI w1 wr n u2 u3 A Bs (fun j => (listed.setIfInBounds 3 true).getD j false) ((a.put (some 29) _).tmps.getD 26 undef) ((a.put (some 29) _).tmps.getD 27 undef) ((a.put (some 29) _).tmps.getD 28 undef) ((a.put (some 29) _).tmps.getD 29 undef) ((a.put (some 29) _).tmps.getD 30 undef) ((a.put (some 29) _).tmps.getD 31 undef) ((a.put (some 29) _).tmps.getD 32 undef) ((a.put (some 29) _).tmps.getD 33 undef) ((a.put (some 29) _).tmps.getD 34 undef) ((a.put (some 29) _).tmps.getD 35 undef) _
     simp only [put_getD hd3, Nat.reduceEqDiff, ↓reduceIte]
     rw [hc] at hI ⊢
     exact RegI.s3 (_x2 := undef) hI hup hd
    ·intro o ho listed a w2 hls hdf hsz hrest hI hun hdeps
     obtain rfl : _ = o := Option.some.inj ho
     have hup := fun j => listed_at (listed := listed) (i := 4) (j := j) (by rw [hls]; decide)
     replace hsz : a.tmps.size = 123 := hsz
     have hd4 : 30 < a.tmps.size := by rw [hsz]; decide
     obtain ⟨c, q, hx0, hx3, hbx, hrow, hle, haft⟩ := RegI.a4 hI hup hun (dep_on hdeps 3 (by kernel_rfl)) (dep_on hdeps 0 (by kernel_rfl)) hra
     obtain ⟨i0, hi0, hz0, hz1, hz2⟩ := info_parts info_set
     have hAl := HLEN.out.1
     refine wpList_append_lies w2 rfl (.tmp 26) (.tmp 29) 124 rfl w1.heap.size 128 i0 (.slice none 0 0) 1 24 Tryz.underlying124 hi0 hz0 hz1 hz2 rfl (by decide) u2 A.length _ hx0 hrow ⟨q, 0, none⟩ 1 1 [hdV n c] hx3 rfl (box_news hbx) (by intro u hu; simp only [List.mem_cons, List.not_mem_nil, or_false] at hu; subst hu; rfl) (by decide) (by unfold maxLen; omega) (by omega) hle w2.heap.size rfl ?_
     intro g cap w3 ho3 hg3 hl3 _
     refine ⟨rfl, _, rfl, ?_⟩
     show RegI w1 wr n u2 u3 A Bs (fun j => (listed.setIfInBounds 4 true).getD j false) ((a.put (some 30) _).tmps.getD 26 undef) ((a.put (some 30) _).tmps.getD 27 undef) ((a.put (some 30) _).tmps.getD 28 undef) ((a.put (some 30) _).tmps.getD 29 undef) ((a.put (some 30) _).tmps.getD 30 undef) ((a.put (some 30) _).tmps.getD 31 undef) ((a.put (some 30) _).tmps.getD 32 undef) ((a.put (some 30) _).tmps.getD 33 undef) ((a.put (some 30) _).tmps.getD 34 undef) ((a.put (some 30) _).tmps.getD 35 undef) _
     simp only [put_getD hd4, Nat.reduceEqDiff, ↓reduceIte]
     exact haft g cap w3 ho3 hg3 hl3
    ·intro o ho listed a w2 hls hdf hsz hrest hI hun hdeps
     obtain rfl : _ = o := Option.some.inj ho
     have hup := fun j => listed_at (listed := listed) (i := 5) (j := j) (by rw [hls]; decide)
     replace hsz : a.tmps.size = 123 := hsz
     have hd5 : 31 < a.tmps.size := by rw [hsz]; decide
     have hx : a.tmps.getD 3 undef = u3 := hrest.at 3 (by kernel_rfl)
     refine wpList_move (s := 3) rfl rfl ⟨rfl, _, rfl, ?_⟩
     rw [hx]
     show RegI w1 wr n u2 u3 A Bs (fun j => (listed.setIfInBounds 5 true).getD j false) ((a.put (some 31) _).tmps.getD 26 undef) ((a.put (some 31) _).tmps.getD 27 undef) ((a.put (some 31) _).tmps.getD 28 undef) ((a.put (some 31) _).tmps.getD 29 undef) ((a.put (some 31) _).tmps.getD 30 undef) ((a.put (some 31) _).tmps.getD 31 undef) ((a.put (some 31) _).tmps.getD 32 undef) ((a.put (some 31) _).tmps.getD 33 undef) ((a.put (some 31) _).tmps.getD 34 undef) ((a.put (some 31) _).tmps.getD 35 undef) _
     simp only [put_getD hd5, Nat.reduceEqDiff, ↓reduceIte]
     exact RegI.s5 hI hup
    ·intro o ho listed a w2 hls hdf hsz hrest hI hun hdeps
     obtain rfl : _ = o := Option.some.inj ho
     have hup := fun j => listed_at (listed := listed) (i := 6) (j := j) (by rw [hls]; decide)
     replace hsz : a.tmps.size = 123 := hsz
     have hd6 : 32 < a.tmps.size := by rw [hsz]; decide
     have hx : a.tmps.getD 4 undef = .int .i64 n := hrest.at 4 (by kernel_rfl)
     refine wpList_move (s := 4) rfl rfl ⟨rfl, _, rfl, ?_⟩
     rw [hx]
     show RegI w1 wr n u2 u3 A Bs (fun j => (listed.setIfInBounds 6 true).getD j false) ((a.put (some 32) _).tmps.getD 26 undef) ((a.put (some 32) _).tmps.getD 27 undef) ((a.put (some 32) _).tmps.getD 28 undef) ((a.put (some 32) _).tmps.getD 29 undef) ((a.put (some 32) _).tmps.getD 30 undef) ((a.put (some 32) _).tmps.getD 31 undef) ((a.put (some 32) _).tmps.getD 32 undef) ((a.put (some 32) _).tmps.getD 33 undef) ((a.put (some 32) _).tmps.getD 34 undef) ((a.put (some 32) _).tmps.getD 35 undef) _
     simp only [put_getD hd6, Nat.reduceEqDiff, ↓reduceIte]
     exact RegI.s6 hI hup
    ·intro o ho listed a w2 hls hdf hsz hrest hI hun hdeps
     obtain rfl : _ = o := Option.some.inj ho
     have hup := fun j => listed_at (listed := listed) (i := 7) (j := j) (by rw [hls]; decide)
     replace hsz : a.tmps.size = 123 := hsz
     have hd7 : 33 < a.tmps.size := by rw [hsz]; decide
     refine wpList_make (s := 32) (w' := w2.alloc (.cells (madeCells #[.int .u64 0] n) 165)) (v := hdV n w2.heap.size) rfl rfl (RegI.d6 hI (dep_on hdeps 6 (by kernel_rfl))) (hmk w2) ⟨rfl, _, rfl, ?_⟩
     show RegI w1 wr n u2 u3 A Bs (fun j => (listed.setIfInBounds 7 true).getD j false) ((a.put (some 33) _).tmps.getD 26 undef) ((a.put (some 33) _).tmps.getD 27 undef) ((a.put (some 33) _).tmps.getD 28 undef) ((a.put (some 33) _).tmps.getD 29 undef) ((a.put (some 33) _).tmps.getD 30 undef) ((a.put (some 33) _).tmps.getD 31 undef) ((a.put (some 33) _).tmps.getD 32 undef) ((a.put (some 33) _).tmps.getD 33 undef) ((a.put (some 33) _).tmps.getD 34 undef) ((a.put (some 33) _).tmps.getD 35 undef) _
     simp only [put_getD hd7, Nat.reduceEqDiff, ↓reduceIte]
     exact RegI.s7 hI hup hun
    ·intro o ho listed a w2 hls hdf hsz hrest hI hun hdeps
     obtain rfl : _ = o := Option.some.inj ho
     have hup := fun j => listed_at (listed := listed) (i := 8) (j := j) (by rw [hls]; decide)
     replace hsz : a.tmps.size = 123 := hsz
     have hd8 : 34 < a.tmps.size := by rw [hsz]; decide
     have hd := dep_on hdeps 7 (by kernel_rfl)
     obtain ⟨c, hc⟩ : ∃ c, a.tmps.getD 33 undef = hdV n c := RegI.d7 hI hd
     refine wpList_build (s := 33) (n := n) (b := c) rfl rfl hc ⟨rfl, _, rfl, ?_⟩
     show RegI w1 wr n u2 u3 A Bs (fun j => (listed.setIfInBounds 8 true).getD j false) ((a.put (some 34) _).tmps.getD 26 undef) ((a.put (some 34) _).tmps.getD 27 undef) ((a.put (some 34) _).tmps.getD 28 undef) ((a.put (some 34) _).tmps.getD 29 undef) ((a.put (some 34) _).tmps.getD 30 undef) ((a.put (some 34) _).tmps.getD 31 undef) ((a.put (some 34) _).tmps.getD 32 undef) ((a.put (some 34) _).tmps.getD 33 undef) ((a.put (some 34) _).tmps.getD 34 undef) ((a.put (some 34) _).tmps.getD 35 undef) _
     simp only [put_getD hd8, Nat.reduceEqDiff, ↓reduceIte]
     rw [hc] at hI ⊢
     exact RegI.s8 (_y2 := undef) hI hup hd
    ·intro o ho listed a w2 hls hdf hsz hrest hI hun hdeps
     obtain rfl : _ = o := Option.some.inj ho
     have hup := fun j => listed_at (listed := listed) (i := 9) (j := j) (by rw [hls]; decide)
     replace hsz : a.tmps.size = 123 := hsz
     have hd9 : 35 < a.tmps.size := by rw [hsz]; decide
     obtain ⟨c, q, hx0, hx3, hbx, hrow, hle, haft⟩ := RegI.a9 hI hup hun (dep_on hdeps 8 (by kernel_rfl)) (dep_on hdeps 5 (by kernel_rfl)) hrb
     obtain ⟨i0, hi0, hz0, hz1, hz2⟩ := info_parts info_set
     have hAl := HLEN.out.2
     refine wpList_append_lies w2 rfl (.tmp 31) (.tmp 34) 124 rfl w1.heap.size 128 i0 (.slice none 0 0) 1 24 Tryz.underlying124 hi0 hz0 hz1 hz2 rfl (by decide) u3 Bs.length _ hx0 hrow ⟨q, 0, none⟩ 1 1 [hdV n c] hx3 rfl (box_news hbx) (by intro u hu; simp only [List.mem_cons, List.not_mem_nil, or_false] at hu; subst hu; rfl) (by decide) (by unfold maxLen; omega) (by omega) hle w2.heap.size rfl ?_
     intro g cap w3 ho3 hg3 hl3 _
     refine ⟨rfl, _, rfl, ?_⟩
     show RegI w1 wr n u2 u3 A Bs (fun j => (listed.setIfInBounds 9 true).getD j false) ((a.put (some 35) _).tmps.getD 26 undef) ((a.put (some 35) _).tmps.getD 27 undef) ((a.put (some 35) _).tmps.getD 28 undef) ((a.put (some 35) _).tmps.getD 29 undef) ((a.put (some 35) _).tmps.getD 30 undef) ((a.put (some 35) _).tmps.getD 31 undef) ((a.put (some 35) _).tmps.getD 32 undef) ((a.put (some 35) _).tmps.getD 33 undef) ((a.put (some 35) _).tmps.getD 34 undef) ((a.put (some 35) _).tmps.getD 35 undef) _
     simp only [put_getD hd9, Nat.reduceEqDiff, ↓reduceIte]
     exact haft g cap w3 ho3 hg3 hl3
   case hend =>
    intro listed a w2 hall hdf hsz hrest hI
    replace hsz : a.tmps.size = 123 := hsz
    replace hdf : a.defers = [] := hdf
    obtain ⟨b, c, hsol⟩ := RegI.done hI (fun i hi => hall i hi) HS.out.1.size
    obtain ⟨x26, e26⟩ : ∃ x, a.tmps.getD 26 undef = x := ⟨_, rfl⟩
    obtain ⟨x27, e27⟩ : ∃ x, a.tmps.getD 27 undef = x := ⟨_, rfl⟩
    obtain ⟨x28, e28⟩ : ∃ x, a.tmps.getD 28 undef = x := ⟨_, rfl⟩
    obtain ⟨x29, e29⟩ : ∃ x, a.tmps.getD 29 undef = x := ⟨_, rfl⟩
    obtain ⟨x30, e30⟩ : ∃ x, a.tmps.getD 30 undef = x := ⟨_, rfl⟩
    obtain ⟨x31, e31⟩ : ∃ x, a.tmps.getD 31 undef = x := ⟨_, rfl⟩
    obtain ⟨x32, e32⟩ : ∃ x, a.tmps.getD 32 undef = x := ⟨_, rfl⟩
    obtain ⟨x33, e33⟩ : ∃ x, a.tmps.getD 33 undef = x := ⟨_, rfl⟩
    obtain ⟨x34, e34⟩ : ∃ x, a.tmps.getD 34 undef = x := ⟨_, rfl⟩
    obtain ⟨x35, e35⟩ : ∃ x, a.tmps.getD 35 undef = x := ⟨_, rfl⟩
    have ha : a = { tmps := #[(.agg #[.int .i64 args, .bool rest, .int .i64 R, .slice oc m cc, c4]), (.pointer (some ⟨w.heap.size, 0, none⟩)), u2, u3, (.int .i64 n), undef, undef, undef, undef, undef, undef, undef, undef, undef, undef, undef, undef, (.pointer (some ⟨w.heap.size, 2, none⟩)), (.int .i64 R), (.int .i64 ((R : Int) / 64)), (.int .i64 n), (.pointer (some ⟨w.heap.size, 3, none⟩)), (.slice oc m cc), (.int .i64 m), (.int .i64 k), (.bool true), x26, x27, x28, x29, x30, x31, x32, x33, x34, x35, u36, undef, undef, undef, undef, undef, undef, undef, undef, undef, undef, undef, undef, undef, undef, undef, undef, undef, undef, undef, undef, undef, undef, undef, undef, undef, undef, undef, undef, undef, undef, undef, undef, undef, undef, undef, undef, undef, undef, undef, undef, undef, undef, undef, undef, undef, undef, undef, undef, undef, undef, undef, undef, undef, undef, undef, undef, undef, undef, undef, undef, undef, undef, undef, undef, undef, undef, undef, undef, undef, undef, undef, undef, undef, undef, undef, undef, undef, undef, undef, undef, undef, undef, undef, undef, undef, undef], defers := [] } := act_eq (m := 123) (l := [(.agg #[.int .i64 args, .bool rest, .int .i64 R, .slice oc m cc, c4]), (.pointer (some ⟨w.heap.size, 0, none⟩)), u2, u3, (.int .i64 n), undef, undef, undef, undef, undef, undef, undef, undef, undef, undef, undef, undef, (.pointer (some ⟨w.heap.size, 2, none⟩)), (.int .i64 R), (.int .i64 ((R : Int) / 64)), (.int .i64 n), (.pointer (some ⟨w.heap.size, 3, none⟩)), (.slice oc m cc), (.int .i64 m), (.int .i64 k), (.bool true), x26, x27, x28, x29, x30, x31, x32, x33, x34, x35, u36, undef, undef, undef, undef, undef, undef, undef, undef, undef, undef, undef, undef, undef, undef, undef, undef, undef, undef, undef, undef, undef, undef, undef, undef, undef, undef, undef, undef, undef, undef, undef, undef, undef, undef, undef, undef, undef, undef, undef, undef, undef, undef, undef, undef, undef, undef, undef, undef, undef, undef, undef, undef, undef, undef, undef, undef, undef, undef, undef, undef, undef, undef, undef, undef, undef, undef, undef, undef, undef, undef, undef, undef, undef, undef, undef, undef, undef, undef, undef, undef, undef, undef, undef, undef, undef, undef]) hsz hdf (show (List.range 123).map (fun i => a.tmps.getD i undef) = _ from (cons_eq (hrest.at 0 (by kernel_rfl)) (cons_eq (hrest.at 1 (by kernel_rfl)) (cons_eq (hrest.at 2 (by kernel_rfl)) (cons_eq (hrest.at 3 (by kernel_rfl)) (cons_eq (hrest.at 4 (by kernel_rfl)) (cons_eq (hrest.at 5 (by kernel_rfl)) (cons_eq (hrest.at 6 (by kernel_rfl)) (cons_eq (hrest.at 7 (by kernel_rfl)) (cons_eq (hrest.at 8 (by kernel_rfl)) (cons_eq (hrest.at 9 (by kernel_rfl)) (cons_eq (hrest.at 10 (by kernel_rfl)) (cons_eq (hrest.at 11 (by kernel_rfl)) (cons_eq (hrest.at 12 (by kernel_rfl)) (cons_eq (hrest.at 13 (by kernel_rfl)) (cons_eq (hrest.at 14 (by kernel_rfl)) (cons_eq (hrest.at 15 (by kernel_rfl)) (cons_eq (hrest.at 16 (by kernel_rfl)) (cons_eq (hrest.at 17 (by kernel_rfl)) (cons_eq (hrest.at 18 (by kernel_rfl)) (cons_eq (hrest.at 19 (by kernel_rfl)) (cons_eq (hrest.at 20 (by kernel_rfl)) (cons_eq (hrest.at 21 (by kernel_rfl)) (cons_eq (hrest.at 22 (by kernel_rfl)) (cons_eq (hrest.at 23 (by kernel_rfl)) (cons_eq (hrest.at 24 (by kernel_rfl)) (cons_eq (hrest.at 25 (by kernel_rfl)) (cons_eq e26 (cons_eq e27 (cons_eq e28 (cons_eq e29 (cons_eq e30 (cons_eq e31 (cons_eq e32 (cons_eq e33 (cons_eq e34 (cons_eq e35 (cons_eq (hrest.at 36 (by kernel_rfl)) (cons_eq (hrest.at 37 (by kernel_rfl)) (cons_eq (hrest.at 38 (by kernel_rfl)) (cons_eq (hrest.at 39 (by kernel_rfl)) (cons_eq (hrest.at 40 (by kernel_rfl)) (cons_eq (hrest.at 41 (by kernel_rfl)) (cons_eq (hrest.at 42 (by kernel_rfl)) (cons_eq (hrest.at 43 (by kernel_rfl)) (cons_eq (hrest.at 44 (by kernel_rfl)) (cons_eq (hrest.at 45 (by kernel_rfl)) (cons_eq (hrest.at 46 (by kernel_rfl)) (cons_eq (hrest.at 47 (by kernel_rfl)) (cons_eq (hrest.at 48 (by kernel_rfl)) (cons_eq (hrest.at 49 (by kernel_rfl)) (cons_eq (hrest.at 50 (by kernel_rfl)) (cons_eq (hrest.at 51 (by kernel_rfl)) (cons_eq (hrest.at 52 (by kernel_rfl)) (cons_eq (hrest.at 53 (by kernel_rfl)) (cons_eq (hrest.at 54 (by kernel_rfl)) (cons_eq (hrest.at 55 (by kernel_rfl)) (cons_eq (hrest.at 56 (by kernel_rfl)) (cons_eq (hrest.at 57 (by kernel_rfl)) (cons_eq (hrest.at 58 (by kernel_rfl)) (cons_eq (hrest.at 59 (by kernel_rfl)) (cons_eq (hrest.at 60 (by kernel_rfl)) (cons_eq (hrest.at 61 (by kernel_rfl)) (cons_eq (hrest.at 62 (by kernel_rfl)) (cons_eq (hrest.at 63 (by kernel_rfl)) (cons_eq (hrest.at 64 (by kernel_rfl)) (cons_eq (hrest.at 65 (by kernel_rfl)) (cons_eq (hrest.at 66 (by kernel_rfl)) (cons_eq (hrest.at 67 (by kernel_rfl)) (cons_eq (hrest.at 68 (by kernel_rfl)) (cons_eq (hrest.at 69 (by kernel_rfl)) (cons_eq (hrest.at 70 (by kernel_rfl)) (cons_eq (hrest.at 71 (by kernel_rfl)) (cons_eq (hrest.at 72 (by kernel_rfl)) (cons_eq (hrest.at 73 (by kernel_rfl)) (cons_eq (hrest.at 74 (by kernel_rfl)) (cons_eq (hrest.at 75 (by kernel_rfl)) (cons_eq (hrest.at 76 (by kernel_rfl)) (cons_eq (hrest.at 77 (by kernel_rfl)) (cons_eq (hrest.at 78 (by kernel_rfl)) (cons_eq (hrest.at 79 (by kernel_rfl)) (cons_eq (hrest.at 80 (by kernel_rfl)) (cons_eq (hrest.at 81 (by kernel_rfl)) (cons_eq (hrest.at 82 (by kernel_rfl)) (cons_eq (hrest.at 83 (by kernel_rfl)) (cons_eq (hrest.at 84 (by kernel_rfl)) (cons_eq (hrest.at 85 (by kernel_rfl)) (cons_eq (hrest.at 86 (by kernel_rfl)) (cons_eq (hrest.at 87 (by kernel_rfl)) (cons_eq (hrest.at 88 (by kernel_rfl)) (cons_eq (hrest.at 89 (by kernel_rfl)) (cons_eq (hrest.at 90 (by kernel_rfl)) (cons_eq (hrest.at 91 (by kernel_rfl)) (cons_eq (hrest.at 92 (by kernel_rfl)) (cons_eq (hrest.at 93 (by kernel_rfl)) (cons_eq (hrest.at 94 (by kernel_rfl)) (cons_eq (hrest.at 95 (by kernel_rfl)) (cons_eq (hrest.at 96 (by kernel_rfl)) (cons_eq (hrest.at 97 (by kernel_rfl)) (cons_eq (hrest.at 98 (by kernel_rfl)) (cons_eq (hrest.at 99 (by kernel_rfl)) (cons_eq (hrest.at 100 (by kernel_rfl)) (cons_eq (hrest.at 101 (by kernel_rfl)) (cons_eq (hrest.at 102 (by kernel_rfl)) (cons_eq (hrest.at 103 (by kernel_rfl)) (cons_eq (hrest.at 104 (by kernel_rfl)) (cons_eq (hrest.at 105 (by kernel_rfl)) (cons_eq (hrest.at 106 (by kernel_rfl)) (cons_eq (hrest.at 107 (by kernel_rfl)) (cons_eq (hrest.at 108 (by kernel_rfl)) (cons_eq (hrest.at 109 (by kernel_rfl)) (cons_eq (hrest.at 110 (by kernel_rfl)) (cons_eq (hrest.at 111 (by kernel_rfl)) (cons_eq (hrest.at 112 (by kernel_rfl)) (cons_eq (hrest.at 113 (by kernel_rfl)) (cons_eq (hrest.at 114 (by kernel_rfl)) (cons_eq (hrest.at 115 (by kernel_rfl)) (cons_eq (hrest.at 116 (by kernel_rfl)) (cons_eq (hrest.at 117 (by kernel_rfl)) (cons_eq (hrest.at 118 (by kernel_rfl)) (cons_eq (hrest.at 119 (by kernel_rfl)) (cons_eq (hrest.at 120 (by kernel_rfl)) (cons_eq (hrest.at 121 (by kernel_rfl)) (cons_eq (hrest.at 122 (by kernel_rfl)) rfl))))))))))))))))))))))))))))))))))))))))))))))))))))))))))))))))))))))))))))))))))))))))))))))))))))))))))))))))))))))))))))
    have HN := Lib.hid (show Sol w1 n w2 x30 x35 (A ++ [b]) (Bs ++ [c]) (fun _ _ => false) from by rw [e30, e35] at hsol; exact hsol)
    have HLN := Lib.hid (show (A ++ [b]).length = k + 1 ∧ (Bs ++ [c]).length = k + 1 from by simp [HLEN.out.1, HLEN.out.2])
    clear hI hsol hrest hall hdf hsz e26 e27 e28 e29 e30 e31 e32 e33 e34 e35
    subst ha
    simp only [List.drop_succ_cons, List.drop_zero]
    go_wp2_with fail
    go_roundg (m - (k + 1))
    case measure => omega
    case rel => exact ⟨k + 1, A ++ [b], Bs ++ [c], rfl, by omega, by go_num, HLN, HN⟩
  ·obtain rfl : k = m := by omega
   clear hkm hmk
   have hk0 : 0 < k := by rw [HL.out]; exact HOK.out.2.2.2.1.1
   obtain ⟨ga, gb, ca, cb, rfl, rfl⟩ := HS.out.form (by rw [HLEN.out.1]; exact hk0) (by rw [HLEN.out.2]; exact hk0)
   have HA := Lib.hid HLEN.out.1
   have HBL := Lib.hid HLEN.out.2
   rw [HA.out, HBL.out] at HS ⊢
   have HBX := Lib.hid (HBX0.out.keep HS.out.1)
   have b3' := HBX.out.cell 3 rfl
   have HLW0 := Lib.hid (show Live.LowTo code A (fun _ _ => false) 0 from fun j x a hj => by omega)
   have HUP0 := Lib.hid (show Live.UpIn code A (fun _ _ => false) from fun b r h => by cases h)
   clear HLEN
   go_wp2_with fail
   go_loopg [40] k (fun G i wq => ∃ (j : Nat) (P : Nat → Nat → Bool), G = k - j ∧ j ≤ k ∧ i = .int .i64 j ∧ Hid (Sol w1 n wq (.slice (some ⟨ga, 0, none⟩) k ca) (.slice (some ⟨gb, 0, none⟩) k cb) A Bs P) ∧ Hid (Live.LowTo code A P j) ∧ Hid (Live.UpIn code A P))
   case atStart => exact ⟨0, _, rfl, by omega, rfl, HS, HLW0, HUP0⟩
   case round =>
    obtain ⟨j, P, rfl, hj, rfl, HSq, HLW, HUP⟩ := hrel
    clear HS HLW0 HUP0 HBX b3'
    by_cases hjk : j < k
    ·obtain ⟨x, hx⟩ : ∃ x, code[j]? = some x := ⟨_, List.getElem?_eq_getElem (by rw [← HL.out]; exact hjk)⟩
     have hbw : Below B w wr := (HB1.out.mono hB).trans (HSq.out.1.mono (by omega))
     obtain ⟨b1, off1, cs, ho1, hbB, hcl, hcell, hins⟩ := HV.out.at hbw hx
     subst ho1
     match cs, hcl with
     | [d0, d1, d2, d3, d4], _ =>
      have e0 := hcell 0 _ rfl
      have e1 := hcell 1 _ rfl
      have e2 := hcell 2 _ rfl
      have e3 := hcell 3 _ rfl
      have e4 := hcell 4 _ rfl
      rw [Nat.add_zero] at e0
      have hxm := List.mem_of_getElem? hx
      have hop := HOK.out.1 x hxm
      have hxl := HOK.out.2.2.2.2.2 x hxm
      have HNR := Lib.hid (HOK.out.2.1 x hxm)
      have HX := Lib.hid hx
      obtain ⟨a, ha⟩ : ∃ a, A[j]? = some a := ⟨_, List.getElem?_eq_getElem (by rw [HA.out]; exact hjk)⟩
      have HAJ := Lib.hid ha
      have hbs := hbw.size
      have HC := Lib.hid (fun X => uses_any x d0 d1 d2 d3 d4 B (wr.alloc X) (hins.kept (hbw.trans ((Below.one wr X).mono (Nat.le_trans hB hbs)))) (by simp; omega) (by omega) hop.1 hop.2)
      obtain ⟨op, d, xa, xb, l⟩ := x
      obtain ⟨sl, he, _, _, _, _, hsl⟩ := hins
      obtain ⟨o4, l4, c4', rfl⟩ := hsl.form
      simp only [List.cons.injEq, and_true] at he
      obtain ⟨rfl, rfl, rfl, rfl, rfl⟩ := he
      dsimp only at hxl hop
      have hbl := cell_lt e0
      have hlast : (wr.alloc (.cells #[.int .i64 op, .int .i64 d, .int .i64 xa, .int .i64 xb, .slice o4 l4 c4'] 34)).heap.size = wr.heap.size + 1 := by simp
      clear hx hcell hcl hsl ha hxm
      go_wp2_with fail
      refine (HC.out _).mono ?_
      rintro e w2 ⟨sv, rfl, hsl2, hb2⟩
      obtain ⟨o2, l2, c2, rfl⟩ := hsl2.form
      have HS2 := Lib.hid (HSq.out.keep (one_below hb2))
      have HSL := Lib.hid hsl2
      obtain ⟨N, hN⟩ : ∃ N, Unt.named ⟨op, d, xa, xb, l⟩ = N := ⟨_, rfl⟩
      rw [hN] at HSL HNR
      have HNN := Lib.hid hN
      have HLN := Lib.hid HSL.out.lens.1
      have hl2 : l2 ≤ 1000000 := by
       have h1 := HSL.out.lens
       have h2 : N.length ≤ l.length + 2 := by rw [← hN]; exact named_len _
       omega
      have HIN := Lib.hid (show ∀ (q : Nat) (r : Nat), q < 0 → N[q]? = some (r : Int) → P a r = true from fun q r h => by omega)
      clear hb2 hsl2 HC e0 e1 e2 e3 e4 HSq hN
      go_wp2_with fail
      go_loopg [52] l2 (fun G i wz => ∃ (q : Nat) (P' : Nat → Nat → Bool), G = l2 - q ∧ q ≤ l2 ∧ i = .int .i64 q ∧ Hid (SlC wz w2.heap.size 1 IntR N (.slice o2 l2 c2)) ∧ Hid (Sol w1 n wz (.slice (some ⟨ga, 0, none⟩) k ca) (.slice (some ⟨gb, 0, none⟩) k cb) A Bs P') ∧ Hid (Live.LowTo code A P' j) ∧ Hid (Live.UpIn code A P') ∧ Hid (∀ (t r : Nat), t < q → N[t]? = some (r : Int) → P' a r = true) ∧ Hid (w2.heap.size ≤ wz.heap.size))
      case atStart => exact ⟨0, P, rfl, by omega, rfl, HSL, HS2, HLW, HUP, HIN, Lib.hid (Nat.le_refl _)⟩
      case round =>
       obtain ⟨q, P', rfl, hq, rfl, HSLz, HSz, HLWz, HUPz, HINz, HSZ⟩ := hrel
       clear HSL HS2 HLW HUP HIN
       by_cases hql : q < l2
       ·obtain ⟨r', hr'⟩ : ∃ r', N[q]? = some r' := ⟨_, List.getElem?_eq_getElem (by rw [← HLN.out]; exact hql)⟩
        obtain ⟨b3, off3, es, ho3, hb3B, hel, hecell, hei⟩ := HSLz.out.at (Below.refl _ _) hr'
        subst ho3
        have hrr := HNR.out r' (List.mem_of_getElem? hr')
        obtain ⟨r, rfl⟩ := Int.eq_ofNat_of_zero_le hrr.1
        have g0 := hecell 0 (.int .i64 r) (by rw [hei.1]; rfl)
        rw [Nat.mul_one, Nat.add_zero] at g0
        have hrn : r < 64 * n := by have := HN.out; omega
        obtain ⟨ga', hga, hlen', g1, hglt⟩ := HSz.out.hdA HAJ.out
        simp only [Option.some.injEq, Addr.mk.injEq, and_true] at hga
        obtain rfl := hga
        have haAB : a ∈ A ++ Bs := List.mem_append_left _ (List.mem_of_getElem? HAJ.out)
        have HSA := Lib.hid (HSz.out.2.2.2.2.2 a haAB).2
        have HCA := Lib.hid (sadd_any a n r (P' a) wr HSA.out hrn (by omega))
        have HRQ := Lib.hid hr'
        have hb3l := cell_lt g0
        clear hecell hei hr' hrr hlen'
        go_wp2_with fail
        with_reducible refine HCA.out.mono ?_
        rintro e w3 ⟨⟨v3, rfl⟩, hs3, hg3⟩
        have HS3 := Lib.hid (show Sol w1 n w3 (.slice (some ⟨ga, 0, none⟩) k ca) (.slice (some ⟨gb, 0, none⟩) k cb) A Bs (Live.upd P' a fun q => P' a q || decide (q = r)) from HSz.out.one haAB hg3 hs3)
        have hle : ∀ x y, P' x y = true → Live.upd P' a (fun q => P' a q || decide (q = r)) x y = true := Live.upd_le fun y hy => by rw [hy]; rfl
        have HSL3 := Lib.hid (HSLz.out.sets HSZ.out HSA.out hg3)
        have HLW3 := Lib.hid (HLWz.out.mono hle)
        have HUP3 := Lib.hid (HUPz.out.add (r := r) HAJ.out HX.out (by rw [HNN.out]; exact List.mem_of_getElem? HRQ.out))
        have HIN3 := Lib.hid (show ∀ (t y : Nat), t < q + 1 → N[t]? = some (y : Int) → Live.upd P' a (fun q => P' a q || decide (q = r)) a y = true from fun t y ht hy => by
         by_cases e : t = q
         ·subst e
          rw [HRQ.out] at hy
          have : (r : Int) = y := Option.some.inj hy
          obtain rfl : r = y := by omega
          rw [Live.upd_same]; simp
         ·exact hle _ _ (HINz.out t y (by omega) hy))
        have HSZ3 := Lib.hid (Nat.le_trans HSZ.out hg3.size)
        clear hs3 hg3 HCA HSA g0 g1 hle
        go_wp2_with fail
        go_roundg (l2 - (q + 1))
        case measure => omega
        case rel => exact ⟨q + 1, _, rfl, by omega, by go_num, HSL3, HS3, HLW3, HUP3, HIN3, HSZ3⟩
       ·obtain rfl : q = l2 := by omega
        have HLW4 := Lib.hid (show Live.LowTo code A P' (j + 1) from fun i y a' hi hy ha' r hr => by
         by_cases e : i = j
         ·subst e
          obtain rfl := Option.some.inj (HX.out.symm.trans hy)
          obtain rfl := Option.some.inj (HAJ.out.symm.trans ha')
          rw [HNN.out] at hr
          obtain ⟨t, ht⟩ := List.mem_iff_getElem?.1 hr
          exact HINz.out t r (by rw [HLN.out]; exact (List.getElem?_eq_some_iff.1 ht).1) ht
         ·exact HLWz.out i y a' (by omega) hy ha' r hr)
        go_wp2_with fail
        go_roundg (k - (j + 1))
        case measure => omega
        case rel => exact ⟨j + 1, P', rfl, by omega, by go_num, HSz, HLW4, HUPz⟩
    ·obtain rfl : j = k := by omega
     have HLo := Lib.hid (show Live.Lower code A P from fun i y a hy ha r hr => HLW.out i y a (by rw [HL.out]; exact (List.getElem?_eq_some_iff.1 hy).1) hy ha r hr)
     have HUp := Lib.hid (HUP.out.upper HSq.out.2.2.2.2.1)
     have HND := Lib.hid HSq.out.2.2.2.2.1
     clear HLW HUP
     go_wp2_with fail
     go_step3
     go_wp2_with fail
     go_loopg [11] (mu (A ++ Bs) n P) (fun G c wq => ∃ P' : Nat → Nat → Bool, G = mu (A ++ Bs) n P' ∧ c = c ∧ Hid (Sol w1 n wq (.slice (some ⟨ga, 0, none⟩) j ca) (.slice (some ⟨gb, 0, none⟩) j cb) A Bs P') ∧ Hid (Live.Upper code A Bs P') ∧ Hid (Live.Lower code A P'))
     case atStart => exact ⟨P, rfl, rfl, HSq, HUp, HLo⟩
     case round =>
      obtain ⟨P1, rfl, _, HS1, HU1, HL1⟩ := hrel
      clear HSq HUp HLo
      have HBX := Lib.hid (HBX0.out.keep HS1.out.1)
      have b3 := HBX.out.cell 3 rfl
      have HPS := Lib.hid (show Live.Pass code A Bs n P1 P1 false j from by rw [HL.out]; exact Live.Pass.start _ _ _ _ _)
      go_wp2_with fail
      go_loopg [11, 12] j (fun G c i wz => ∃ (t : Nat) (P' : Nat → Nat → Bool) (q : Bool), t = G ∧ t ≤ j ∧ i = .int .i64 ((t : Int) - 1) ∧ c = .bool q ∧ Hid (Sol w1 n wz (.slice (some ⟨ga, 0, none⟩) j ca) (.slice (some ⟨gb, 0, none⟩) j cb) A Bs P') ∧ Hid (Live.Upper code A Bs P') ∧ Hid (Live.Lower code A P') ∧ Hid (Live.Pass code A Bs n P1 P' q t))
      case atStart => exact ⟨j, P1, false, rfl, by omega, by go_num, rfl, HS1, HU1, HL1, HPS⟩
      case round =>
       obtain ⟨t, P', q, rfl, ht, rfl, rfl, HSz, HUz, HLz, HPz⟩ := hrel
       clear HS1 HU1 HL1 HPS HBX b3
       cases t with
       | zero =>
        rw [show (((0 : Nat) : Int) - 1) = (-1 : Int) from rfl]
        cases q with
        | true =>
         have hlt := HPz.out.2.1 rfl
         go_wp2_with fail
         go_roundg (mu (A ++ Bs) n P')
         case measure => exact hlt
         case rel => exact ⟨P', rfl, trivial, HSz, HUz, HLz⟩
        | false =>
         obtain ⟨he, hsh⟩ := HPz.out.2.2 rfl
         subst he
         have HSH := Lib.hid (show ∀ k, k < code.length → Live.ShutAt code A Bs P' k from fun k hk => hsh k (Nat.zero_le _) hk)
         clear hsh
         go_wp2_with fail
         rw [Exit.noGoto_ret]
         go_ret2
         have hAl : A.length = code.length := by rw [HA.out, HL.out]
         have hBl : Bs.length = code.length := by rw [HBL.out, HL.out]
         refine ⟨w1, _, _, A, Bs, P', rfl, HSz.out, HB1.out.trans (HSz.out.1.mono (by omega)), hAl, hBl, fun r k a ha => ?_, fun r k b x hx hb => ?_⟩
         ·exact (Live.solved_all hAl hBl HOK.out.2.2.2.1 HUz.out HLz.out HSH.out r).1 k a ha
         ·exact (Live.solved_all hAl hBl HOK.out.2.2.2.1 HUz.out HLz.out HSH.out r).2 k b x hx hb
       | succ t =>
        rw [show (((t + 1 : Nat) : Int) - 1) = (t : Int) from by omega]
        have htj : t < j := by omega
        obtain ⟨x, hx⟩ : ∃ x, code[t]? = some x := ⟨_, List.getElem?_eq_getElem (by rw [← HL.out]; exact htj)⟩
        have HX := Lib.hid hx
        have hxm := List.mem_of_getElem? hx
        have hop := HOK.out.1 x hxm
        have hgv := HOK.out.2.2.1 x hxm
        have hxl := HOK.out.2.2.2.2.2 x hxm
        obtain ⟨a, ha⟩ : ∃ a, A[t]? = some a := ⟨_, List.getElem?_eq_getElem (by rw [HA.out]; exact htj)⟩
        obtain ⟨b, hb⟩ : ∃ b, Bs[t]? = some b := ⟨_, List.getElem?_eq_getElem (by rw [HBL.out]; exact htj)⟩
        have HAT := Lib.hid ha
        have HBT := Lib.hid hb
        have hbw : Below B w wr := (HB1.out.mono hB).trans (HSz.out.1.mono (by omega))
        obtain ⟨b1, off1, cs, ho1, hbB, hcl, hcell, hins⟩ := HV.out.at hbw hx
        subst ho1
        match cs, hcl with
        | [d0, d1, d2, d3, d4], _ =>
         have e0 := hcell 0 _ rfl
         have e1 := hcell 1 _ rfl
         have e2 := hcell 2 _ rfl
         have e3 := hcell 3 _ rfl
         have e4 := hcell 4 _ rfl
         rw [Nat.add_zero] at e0
         have HINS := Lib.hid hins
         have hgs := goes_succs HOK.out.2.2.2.2.1 hx
         obtain ⟨SU, hSU⟩ : ∃ SU, Peep.succs x t = SU := ⟨_, rfl⟩
         have HSU := Lib.hid hSU
         have HTO := Lib.hid (show ∀ y ∈ SU, y < j from fun y hy => by rw [HL.out]; exact HOK.out.2.2.2.1.2 t x hx y (by rw [hSU]; exact hy))
         obtain ⟨gd, hgd⟩ : ∃ gd, Unt.gives x = gd := ⟨_, rfl⟩
         have HGD := Lib.hid hgd
         rw [hgd] at hgv
         obtain ⟨op, d, xa, xb, l⟩ := x
         obtain ⟨sl, he, _, _, hxa, hxb, hsl⟩ := hins
         obtain ⟨o4, l4, c4', rfl⟩ := hsl.form
         simp only [List.cons.injEq, and_true] at he
         obtain ⟨rfl, rfl, rfl, rfl, rfl⟩ := he
         have HGO := Lib.hid (lgoes_any op d xa xb l (.slice o4 l4 c4') ⟨_, _, _, rfl⟩ t wr hxa hxb (by omega))
         rw [hgs, hSU] at HGO
         have HBX := Lib.hid (HBX0.out.keep HSz.out.1)
         have b3 := HBX.out.cell 3 rfl
         have hbl := cell_lt e0
         dsimp only at hop hxl
         clear hx hxm hcell hcl hsl ha hb hgs hSU hgd hxa hxb
         go_wp2_with fail
         refine HGO.out.mono ?_
         rintro e w2 ⟨gv, rfl, hgl, hb2⟩
         obtain ⟨og, lg, cg, rfl⟩ := hgl.form
         have HGL := Lib.hid hgl
         have HLG := Lib.hid (show lg = SU.length from by rw [hgl.lens.1, List.length_map])
         have hlgb : lg ≤ 2 := by rw [HLG.out, ← HSU.out]; exact succs_len _ _
         have HS2 := Lib.hid (HSz.out.keep hb2)
         have HP2 := Lib.hid (show Live.Pass2 code A Bs n P1 P' q t (SU.take 0) from ⟨HPz.out, fun _ t ht => by simp at ht⟩)
         have HSZ0 := Lib.hid (Nat.le_refl w2.heap.size)
         clear hgl hb2 HGO HSz HPz e0 e1 e2 e3 e4 b3 HBX
         go_wp2_with fail
         go_loopg [11, 80] lg (fun G c i wy => ∃ (s : Nat) (P'' : Nat → Nat → Bool) (q : Bool), G = lg - s ∧ s ≤ lg ∧ i = .int .i64 s ∧ c = .bool q ∧ Hid (SlC wy w2.heap.size 1 IntR (SU.map fun (y : Nat) => (y : Int)) (.slice og lg cg)) ∧ Hid (Sol w1 n wy (.slice (some ⟨ga, 0, none⟩) j ca) (.slice (some ⟨gb, 0, none⟩) j cb) A Bs P'') ∧ Hid (Live.Upper code A Bs P'') ∧ Hid (Live.Lower code A P'') ∧ Hid (Live.Pass2 code A Bs n P1 P'' q t (SU.take s)) ∧ Hid (w2.heap.size ≤ wy.heap.size))
         case atStart => exact ⟨0, P', q, rfl, by omega, rfl, rfl, HGL, HS2, HUz, HLz, HP2, HSZ0⟩
         case round =>
          obtain ⟨s, P'', q', rfl, hs, rfl, rfl, HGLy, HSy, HUy, HLy, HPy, HSZ⟩ := hrel
          clear HGL HS2 HUz HLz HP2 HSZ0
          have HSA := fun c hc => (HSy.out.2.2.2.2.2 c hc).2
          by_cases hslg : s < lg
          ·obtain ⟨y, hy⟩ : ∃ y, SU[s]? = some y := ⟨_, List.getElem?_eq_getElem (by rw [← HLG.out]; exact hslg)⟩
           have hyj := HTO.out y (List.mem_of_getElem? hy)
           obtain ⟨b3, off3, es, ho3, hb3B, hel, hecell, hei⟩ := HGLy.out.at (Below.refl _ _) (show (SU.map fun (y : Nat) => (y : Int))[s]? = some (y : Int) from by simp [hy])
           subst ho3
           have g0 := hecell 0 (.int .i64 y) (by rw [hei.1]; rfl)
           rw [Nat.mul_one, Nat.add_zero] at g0
           obtain ⟨a', ha'⟩ : ∃ a', A[y]? = some a' := ⟨_, List.getElem?_eq_getElem (by rw [HA.out]; exact hyj)⟩
           obtain ⟨ga', hga, hlen', f1, hglt⟩ := HSy.out.hdA ha'
           simp only [Option.some.injEq, Addr.mk.injEq, and_true] at hga
           obtain rfl := hga
           obtain ⟨gb', hgb, hlen2, f2, hglt2⟩ := HSy.out.hdB HBT.out
           simp only [Option.some.injEq, Addr.mk.injEq, and_true] at hgb
           obtain rfl := hgb
           have hbAB : b ∈ A ++ Bs := List.mem_append_right _ (List.mem_of_getElem? HBT.out)
           have HJ := Lib.hid (fun (V : World) (hV : V = wr.drew) => sjoin_any b a' n (-1) (P'' b) (P'' a') V (by rw [hV]; exact HSA b hbAB) (by rw [hV]; exact HSA a' (List.mem_append_left _ (List.mem_of_getElem? ha'))) (Ne.symm (Live.nodup_apart HND.out ha' HBT.out)) (by omega) (by omega) (by omega))
           have HSB := Lib.hid (HSA b hbAB)
           have hb3l := cell_lt g0
           have HY := Lib.hid hy
           have HYA := Lib.hid ha'
           have hyc : y < code.length := by rw [← HL.out]; exact hyj
           clear hecell hei hlen' hlen2 hy ha' HSA
           go_upto_region 23 with fail
           refine wp_region_quiet_class (fun V => V = wr.drew) 8 (by kernel_rfl) (by kernel_rfl) rfl ?_
           intro T _ W HW HW2
           have k1 : ∀ u, (W u).cell? ⟨ga, y, none⟩ = some (hdV n a') := fun u => by rw [HW u]; exact f1
           have k2 : ∀ u, (W u).cell? ⟨gb, t, none⟩ = some (hdV n b) := fun u => by rw [HW u]; exact f2
           have HWH := Lib.hid HW
           clear HW HW2
           simp only [List.take_succ_cons, List.take_zero, List.drop_succ_cons, List.drop_zero]
           repeat (go_big_quiet_step (fail))
           refine wpQuiet_nil ?_
           intro u
           go_wp2_with fail
           refine (HJ.out _ (HWH.out u)).mono ?_
           rintro e w3 ⟨c', Q, rfl, hs3, hQ, hf, ht', hg3⟩
           have hg : wr.grownBy w3 (some b) := by rw [HWH.out u] at hg3; exact gdrew hg3
           have HS3 := Lib.hid (show Sol w1 n w3 (.slice (some ⟨ga, 0, none⟩) j ca) (.slice (some ⟨gb, 0, none⟩) j cb) A Bs (Live.upd P'' b Q) from HSy.out.one hbAB hg hs3)
           have HU3 := Lib.hid (HUy.out.behind HND.out HX.out HBT.out (by rw [HSU.out]; exact List.mem_of_getElem? HY.out) HYA.out hyc hQ)
           have HL3 := Lib.hid (HLy.out.mono (Live.upd_le (b := b) (Q := Q) fun r hr => by rw [hQ, hr]; rfl))
           have HP3 := Lib.hid (show Live.Pass2 code A Bs n P1 (Live.upd P'' b Q) (c' || q') t (SU.take (s + 1)) from by
            rw [List.take_add_one, HY.out]; exact HPy.out.join HND.out HBT.out HYA.out hQ ht' hf)
           have HGL3 := Lib.hid (HGLy.out.sets HSZ.out HSB.out hg)
           have HSZ3 := Lib.hid (Nat.le_trans HSZ.out hg.size)
           clear hs3 hQ hf ht' hg3 hg k1 k2 HJ f1 f2 g0
           cases c' with
           | true =>
            go_wp2_with fail
            go_roundg (lg - (s + 1))
            case measure => omega
            case rel => exact ⟨s + 1, Live.upd P'' b Q, true, rfl, Nat.succ_le_of_lt hslg, by go_num, rfl, HGL3, HS3, HU3, HL3, HP3, HSZ3⟩
           | false =>
            go_wp2_with fail
            go_roundg (lg - (s + 1))
            case measure => omega
            case rel => exact ⟨s + 1, Live.upd P'' b Q, q', rfl, Nat.succ_le_of_lt hslg, by go_num, rfl, HGL3, HS3, HU3, HL3, HP3, HSZ3⟩
          ·obtain rfl : s = lg := by omega
           have HP6 := Lib.hid (show Live.Pass2 code A Bs n P1 P'' q' t SU from by
            have h := HPy.out
            have h2 := HLG.out
            rw [List.take_of_length_le (by omega)] at h
            exact h)
           have hbw2 : Below B w wr := (HB1.out.mono hB).trans (HSy.out.1.mono (by omega))
           obtain ⟨b1', off1', cs', ho1, hbB', hcl', hcell, hins⟩ := HV.out.at hbw2 HX.out
           simp only [Option.some.injEq, Addr.mk.injEq, and_true] at ho1
           obtain ⟨rfl, rfl⟩ := ho1
           match cs', hcl' with
           | [d0, d1, d2, d3, d4], _ =>
            have hbs := hbw2.size
            have HC := Lib.hid ((uses_any ⟨op, d, xa, xb, l⟩ d0 d1 d2 d3 d4 B wr (hins.kept hbw2) (by omega) (by dsimp only; omega) hop.1 hop.2).mono fun e w' h => (show ∃ sl, e = .returned (.tuple #[sl, .int .i64 gd]) ∧ Below wr.heap.size wr w' from by obtain ⟨sl, h1, _, h3⟩ := h; exact ⟨sl, by rw [h1, HGD.out], h3⟩))
            have e0 := hcell 0 _ rfl
            have e1 := hcell 1 _ rfl
            have e2 := hcell 2 _ rfl
            have e3 := hcell 3 _ rfl
            have e4 := hcell 4 _ rfl
            rw [Nat.add_zero] at e0
            obtain ⟨sl, he, _⟩ := hins
            simp only [List.cons.injEq, and_true] at he
            obtain ⟨rfl, rfl, rfl, rfl, rfl⟩ := he
            have HBX := Lib.hid (HBX0.out.keep HSy.out.1)
            have b3 := HBX.out.cell 3 rfl
            have hbl' := cell_lt e0
            clear hcell hcl' HPy HGLy HSA
            go_wp2_with fail
            refine HC.out.mono ?_
            rintro e w3 ⟨sv, rfl, hb3⟩
            have HS4 := Lib.hid (HSy.out.keep hb3)
            obtain ⟨ga', hga, hlen', f1, hglt⟩ := HS4.out.hdA HAT.out
            simp only [Option.some.injEq, Addr.mk.injEq, and_true] at hga
            obtain rfl := hga
            obtain ⟨gb', hgb, hlen2, f2, hglt2⟩ := HS4.out.hdB HBT.out
            simp only [Option.some.injEq, Addr.mk.injEq, and_true] at hgb
            obtain rfl := hgb
            have haAB : a ∈ A ++ Bs := List.mem_append_left _ (List.mem_of_getElem? HAT.out)
            have hbAB : b ∈ A ++ Bs := List.mem_append_right _ (List.mem_of_getElem? HBT.out)
            have HJ := Lib.hid (fun (V : World) (hV : V = w3.drew) => sjoin_any a b n gd (P'' a) (P'' b) V (by rw [hV]; exact (HS4.out.2.2.2.2.2 a haAB).2) (by rw [hV]; exact (HS4.out.2.2.2.2.2 b hbAB).2) (Live.nodup_apart HND.out HAT.out HBT.out) (by omega) (by omega) (by omega))
            clear hlen' hlen2 hb3 HC HSy e0 e1 e2 e3 e4 b3 HBX
            go_upto_region 26 with fail
            refine wp_region_quiet_class (fun V => V = w3.drew) 9 (by kernel_rfl) (by kernel_rfl) rfl ?_
            intro T _ W HW HW2
            have k1 : ∀ u, (W u).cell? ⟨ga, t, none⟩ = some (hdV n a) := fun u => by rw [HW u]; exact f1
            have k2 : ∀ u, (W u).cell? ⟨gb, t, none⟩ = some (hdV n b) := fun u => by rw [HW u]; exact f2
            have HWH := Lib.hid HW
            clear HW HW2
            simp only [List.take_succ_cons, List.take_zero, List.drop_succ_cons, List.drop_zero]
            repeat (go_big_quiet_step (fail))
            refine wpQuiet_nil ?_
            intro u
            go_wp2_with fail
            refine (HJ.out _ (HWH.out u)).mono ?_
            rintro e w5 ⟨c', Q, rfl, hs3, hQ, hf, ht', hg3⟩
            have hg : w3.grownBy w5 (some a) := by rw [HWH.out u] at hg3; exact gdrew hg3
            rw [← HGD.out] at hQ
            have HS5 := Lib.hid (show Sol w1 n w5 (.slice (some ⟨ga, 0, none⟩) j ca) (.slice (some ⟨gb, 0, none⟩) j cb) A Bs (Live.upd P'' a Q) from HS4.out.one haAB hg hs3)
            have HU5 := Lib.hid (HUy.out.ahead HND.out HX.out HBT.out HAT.out hQ)
            have HL5 := Lib.hid (HLy.out.mono (Live.upd_le (b := a) (Q := Q) fun r hr => by rw [hQ, hr]; rfl))
            have HP5 := Lib.hid (show Live.Pass code A Bs n P1 (Live.upd P'' a Q) (c' || q') t from by
             have h6 := HP6.out
             rw [← HSU.out] at h6
             exact h6.last HX.out HBT.out HAT.out hQ ht' hf)
            clear hs3 hQ hf ht' hg3 hg k1 k2 HJ f1 f2
            cases c' with
            | true =>
             go_wp2_with fail
             go_roundg t
             case measure => omega
             case rel => exact ⟨t, Live.upd P'' a Q, true, rfl, by omega, by go_num, rfl, HS5, HU5, HL5, HP5⟩
            | false =>
             go_wp2_with fail
             go_roundg t
             case measure => omega
             case rel => exact ⟨t, Live.upd P'' a Q, q', rfl, by omega, by go_num, rfl, HS5, HU5, HL5, HP5⟩
end
end Go.Proofs.YtigkhmppnnljiaaGreatDoor

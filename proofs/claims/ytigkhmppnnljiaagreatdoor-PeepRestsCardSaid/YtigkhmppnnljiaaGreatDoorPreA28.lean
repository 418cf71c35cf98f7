/-
  What the proofs lean on: PComeW, MkS, TurnT, CloneC, PAlone.
-/
import Derived.BigQuiet
import Derived.Deep.RegionLaw
import Derived.Deep.AppendLies
import Derived.Maps.OwnSet
import Derived.WideKeyEntry
import Derived.Test.YtigkhmppnnljiaaGreatDoorPreA12
import Derived.Test.YtigkhmppnnljiaaGreatDoorPreA13
import Derived.Test.YtigkhmppnnljiaaGreatDoorPreA17
import Derived.Test.YtigkhmppnnljiaaGreatDoorPreA19
import Derived.Test.YtigkhmppnnljiaaGreatDoorPreA20
import Derived.Test.YtigkhmppnnljiaaGreatDoorPreA23
import Derived.Test.YtigkhmppnnljiaaGreatDoorPreA24
import Derived.Test.YtigkhmppnnljiaaGreatDoorPreA26
set_option maxRecDepth 100000
set_option maxHeartbeats 16000000
namespace Go.Proofs.YtigkhmppnnljiaaGreatDoor
section
open Go Go.RowKit
namespace Peep
end Peep
theorem allL_lenC : ∀ l : List Dat, l.length ≤ Dat.allL l
 | [] => by simp
 | .mk k n d s l' :: l => by
  have := allL_lenC l
  rw [Dat.allL, Dat.all, List.length_cons]
  omega
theorem few_consts {u : Unt} {n rg : Int} (h : Unt.fewB u n rg = true) : u.consts.length ≤ 2000 := by
 simp only [Unt.fewB, Bool.and_eq_true, decide_eq_true_eq] at h
 have := allL_lenC u.consts
 omega
end
section
open Go Go.RowKit
def IntsM (W : World) (S : Nat → Prop) (l : List Int) (v : Value) : Prop := SlC W W.heap.size 1 IntR l v ∧ ∀ b, v.ownBlock = some b → l ≠ [] → ¬ S b
def InsM (W : World) (S : Nat → Prop) (x : Ins) (cs : List Value) : Prop := ∃ sl, cs = [.int .i64 x.op, .int .i64 x.d, .int .i64 x.a, .int .i64 x.b, sl] ∧ I64 x.op ∧ I64 x.d ∧ I64 x.a ∧ I64 x.b ∧ IntsM W S x.l sl
theorem IntsM.kept {W W' : World} {S S' S'' : Nat → Prop} {l : List Int} {v : Value} (h : IntsM W S l v) (ht : Turned S'' W W') (h2 : ∀ b, b < W.heap.size → S'' b → S b) (hS : ∀ b, b < W.heap.size → S' b → S b) : IntsM W' S' l v := by
 obtain ⟨⟨o, len, cap, rfl, h1, h2', h3, h4⟩, h5⟩ := h
 by_cases hl : l = []
 ·subst hl
  refine ⟨⟨o, len, cap, rfl, h1, h2', h3, ?_⟩, fun _ _ h => absurd rfl h⟩
  cases o with
  | none => exact h4
  | some a => exact ⟨fun h => absurd rfl h, fun i x hx => by simp at hx⟩
 cases o with
 | none => exact absurd h4.1 hl
 | some a =>
  have hb := (h4.1 hl).2
  have hn := h5 a.block rfl hl
  refine ⟨⟨some a, len, cap, rfl, h1, h2', h3, fun _ => ⟨(h4.1 hl).1, Nat.lt_of_lt_of_le hb ht.size⟩, fun i x hx => ?_⟩, fun b hbb _ hs => ?_⟩
  ·obtain ⟨cs, g1, g2, g3⟩ := h4.2 i x hx
   refine ⟨cs, g1, fun j u hj => ?_, g3⟩
   have := g2 j u hj
   unfold World.cell? at this ⊢
   rw [ht.block a.block hb (fun hs => hn (h2 _ hb hs))]
   exact this
  ·have e : a.block = b := by simpa [Value.ownBlock] using hbb
   subst e
   exact hn (hS _ hb hs)
theorem InsM.kept {W W' : World} {S S' S'' : Nat → Prop} {x : Ins} {cs : List Value} (h : InsM W S x cs) (ht : Turned S'' W W') (h2 : ∀ b, b < W.heap.size → S'' b → S b) (hS : ∀ b, b < W.heap.size → S' b → S b) : InsM W' S' x cs := by
 obtain ⟨sl, a, b, c, d, e, f⟩ := h
 exact ⟨sl, a, b, c, d, e, f.kept ht h2 hS⟩
theorem IntsM.nil (W : World) (S : Nat → Prop) : IntsM W S [] (.slice none 0 0) := ⟨⟨none, 0, 0, rfl, rfl, by omega, by omega, rfl, rfl⟩, fun _ h => by simp [Value.ownBlock] at h⟩
theorem IntsM.of_row {W : World} {S : Nat → Prop} {base : Nat} {l : List Int} {v : Value} (h : W.ownsRow base 3 1 v l.length (l.map (Value.int .i64))) (hl : ∀ x ∈ l, I64 x) (hS : ∀ b, v.ownBlock = some b → ¬ S b) : IntsM W S l v := ⟨rowInts h hl, fun b hb _ => hS b hb⟩
theorem IntsM.drops {W : World} {S : Nat → Prop} {l : List Int} {b off len cap n : Nat} (h : IntsM W S l (.slice (some ⟨b, off, none⟩) len cap)) (hn : n ≤ len) : IntsM W S (l.drop n) (.slice (some ⟨b, off + n, none⟩) (len - n) (cap - n)) :=
 ⟨by simpa using h.1.drops hn, fun c hc hne => h.2 c (by simpa [Value.ownBlock] using hc) fun e => hne (by rw [e]; simp)⟩
theorem ownBlock_lt {W : World} {base n size c : Nat} {e : TypeId} {v : Value} {xs : List Value} (h : W.ownsRow base e size v n xs) (hc : v.ownBlock = some c) : c < W.heap.size := by
 obtain ⟨cs, f, hr⟩ := own_row h c hc
 exact (Array.getElem?_eq_some_iff.1 hr).1
theorem ownBlock_base {W : World} {base n size c : Nat} {e : TypeId} {v : Value} {xs : List Value} (h : W.ownsRow base e size v n xs) (hc : v.ownBlock = some c) : base ≤ c := by
 rcases h.2 with ⟨rfl, _⟩ | ⟨g, cap, cur, rfl, hb, _⟩
 ·simp [Value.ownBlock] at hc
 ·have e : g = c := by simpa [Value.ownBlock] using hc
  omega
theorem row_same {W W' : World} {base n size : Nat} {e : TypeId} {v : Value} {xs : List Value} (h : W.ownsRow base e size v n xs) (hb : ∀ c, v.ownBlock = some c → W'.heap[c]? = W.heap[c]?) : W'.ownsRow base e size v n xs := by
 refine ⟨h.1, ?_⟩
 rcases h.2 with h0 | ⟨g, cap, cur, rfl, h2, h3, h4⟩
 ·exact .inl h0
 ·exact .inr ⟨g, cap, cur, rfl, h2, (hb g rfl).trans h3, h4⟩
theorem IntsM.below {W W' : World} {S : Nat → Prop} {l : List Int} {v : Value} (h : IntsM W S l v) (hb : Below W.heap.size W W') : IntsM W' S l v := h.kept (Turned.of_below (S := fun _ => False) hb) (fun _ _ h => h.elim) (fun _ _ h => h)
end
section
open Go
def turnT (ops : Array Oper) (n m p : Nat) (U : Nat → Bool) : Bool := monoB ops n m && (freeN ops n p U && !U p)
where
 freeN (ops : Array Oper) (n p : Nat) (U : Nat → Bool) : Bool := (List.range n).all fun i => decide (i = p) || match ops[i]? with | some o => o.after.all fun e => !Region.binds .any e || !U e.on | none => true
theorem wp_region_turnT {P : Program} {id : Nat} {Q : Exit → Act → World → Prop} {a0 : Act} {w : World} {l : List Oper} (n p : Nat) (U : Nat → Bool) (R : Nat → Value → World → Prop) (Ext Ext' : World → World → Prop) (hm : P.follows .mixedOrders = true) (hB : turnT l.toArray n a0.tmps.size p U = true)
  (htr : ∀ {A B C : World}, Ext A B → Ext B C → Ext A C) (htr' : ∀ {A B C : World}, Ext' A B → Ext' B C → Ext' A C) (hE : ∀ {A B : World}, Ext w.drew A → Ext' A B → Ext A B) (h0 : Ext w.drew w.drew) (h0' : Ext' w.drew w.drew)
  (hR : ∀ i v A B, i ≠ p → U i = false → R i v A → Ext A B → R i v B) (hU : ∀ i v A B, U i = true → R i v A → Ext' A B → R i v B) (hRp : ∀ v A B, R p v A → Ext' A B → R p v B)
  (hops : ∀ i o, i < n → l.toArray[i]? = some o → ∀ (a : Act) (w1 : World), a.defers = a0.defers → a.tmps.size = a0.tmps.size → Ext w.drew w1 → (i = p → Ext' w.drew w1) → (∀ j oj d, j < n → l.toArray[j]? = some oj → (∃ e ∈ o.after, Region.binds .any e = true ∧ e.on = j) → oj.dst = some d → R j (a.tmps.getD d undef) w1) → Rest l.toArray n a0 a →
   wpList P l.toArray (StepPost R (if i = p then Ext else Ext') i o a w1) [o] a w1)
  (hend : ∀ a w1, a.defers = a0.defers → a.tmps.size = a0.tmps.size → Ext w.drew w1 → (∀ i o d, i < n → U i = false → l.toArray[i]? = some o → o.dst = some d → R i (a.tmps.getD d undef) w1) → Rest l.toArray n a0 a → wpList P l.toArray Q (l.drop n) a w1) :
  (Code.region id l.toArray true).wp P Q a0 w := by
 simp only [turnT, Bool.and_eq_true] at hB
 obtain ⟨hmono, hfr, hUp⟩ := hB
 have hUp : U p = false := by simpa using hUp
 have hB' := hmono
 simp only [monoB, monoG, Bool.and_eq_true, decide_eq_true_eq] at hB'
 obtain ⟨⟨_, _, _, hn, hsl, _⟩, hgd⟩ := hB'
 have hfree : ∀ i o, i < n → l.toArray[i]? = some o → i ≠ p → ∀ e ∈ o.after, Region.binds .any e = true → U e.on = false := fun i o hi ho hip e he hb => by
  have h1 := List.all_eq_true.1 hfr i (List.mem_range.2 hi)
  simp only [ho, Bool.or_eq_true, decide_eq_true_eq, hip, false_or] at h1
  have h2 := Array.all_eq_true_iff_forall_mem.1 h1 e he
  simpa [hb] using h2
 refine wp_region_inv n (fun listed a W => Ext w.drew W ∧ (listed.getD p false = false → Ext' w.drew W) ∧ ∀ i o d, i < n → l.toArray[i]? = some o → listed.getD i false = true → o.dst = some d → (U i = false ∨ listed.getD p false = false) → R i (a.tmps.getD d undef) W) hm hmono ⟨h0, fun _ => h0', fun i o d _ _ h => by rw [getD_replicate_false] at h; cases h⟩ ?_ ?_
 ·intro i o hi ho listed a w1 hls hdf hsz hrest ⟨hex, hex', hval⟩ hun hdeps
  have hg : Region.wanted o (yielded l.toArray a.tmps) = true := by simp [Region.wanted, no_guard hgd hi ho]
  have hlt : i < listed.size := by rw [hls]; omega
  have hstep := hops i o hi ho a w1 hdf hsz hex (fun e => hex' (by rw [← e]; exact hun)) (fun j oj d hj hoj ⟨e, he, hb, hon⟩ hd => hval j oj d hj hoj (by have := hdeps e he hb; rwa [hon] at this) hd (by
   by_cases hip : i = p
   ·exact .inr (by rw [← hip]; exact hun)
   ·exact .inl (by rw [← hon]; exact hfree i o hi ho hip e he hb))) hrest
  unfold wpList
  rw [if_pos hg]
  left
  refine Oper.wp_mono ?_ (wp_of_list (ops := l.toArray) (K := fun a' w' => ∃ v, a' = a.put o.dst v ∧ R i v w' ∧ (if i = p then Ext else Ext') w1 w') hg hstep)
  rintro a' w' ⟨v, rfl, hv, hx⟩
  have hx' : Ext w1 w' := by
   by_cases e : i = p
   ·rwa [if_pos e] at hx
   ·rw [if_neg e] at hx; exact hE hex hx
  refine ⟨rfl, v, rfl, htr hex hx', fun hl => ?_, fun j oj d hj hoj hl hd hor => ?_⟩
  ·by_cases e : i = p
   ·subst e
    simp [hlt] at hl
   ·rw [if_neg e] at hx
    rw [getD_set_ne false e] at hl
    exact htr' (hex' hl) hx
  ·by_cases e : i = j
   ·subst e
    obtain rfl : oj = o := Option.some.inj (hoj.symm.trans ho)
    have hd' := (slots_at hsl hi hi ho ho hd hd).1
    rw [hd, put_getD (by rw [hsz]; exact hd'), if_pos rfl]
    exact hv
   ·rw [getD_set_ne false e] at hl
    have hor' : U j = false ∨ listed.getD p false = false := by
     rcases hor with h | h
     ·exact .inl h
     ·refine .inr ?_
      by_cases e' : i = p
      ·subst e'
       simp [hlt] at h
      ·rwa [getD_set_ne false e'] at h
    have hold := hval j oj d hj hoj hl hd hor'
    have hsame : (a.put o.dst v).tmps.getD d undef = a.tmps.getD d undef := by
     cases hdo : o.dst with
     | none => rfl
     | some d' =>
      obtain ⟨hd', hne⟩ := slots_at hsl hi hj ho hoj hdo hd
      rw [put_getD (by rw [hsz]; exact hd'), if_neg (hne.resolve_left e)]
    rw [hsame]
    by_cases ep : j = p
    ·subst ep
     rw [if_neg e] at hx
     exact hRp _ _ _ hold hx
    ·cases hu : U j with
     | false => exact hR j _ _ _ ep hu hold hx'
     | true =>
      rcases hor with h | h
      ·rw [hu] at h; cases h
      ·have hip : i ≠ p := fun e' => by subst e'; simp [hlt] at h
       rw [if_neg hip] at hx
       exact hU j _ _ _ hu hold hx
 ·intro listed a w1 hall hdf hsz hrest ⟨hex, _, hval⟩
  exact hend a w1 hdf hsz hex (fun i o d hi hu ho hd => hval i o d hi ho (hall i hi) hd (.inl hu)) hrest
end
section
open Go.RowKit
theorem codR_shape {w : World} {B : Nat} {c : Cod} {cs : List Value} (h : CodR w B c cs) : ∃ ov lv cv q r u q' r' u', cs = [.slice ov lv cv, .bool c.rest, .int .i64 c.body.op, .int .i64 c.body.n, .slice q r u, .slice q' r' u'] ∧ SlC w B 1 IntR c.v (.slice ov lv cv) ∧ TrmR w B c.body [.int .i64 c.body.op, .int .i64 c.body.n, .slice q r u, .slice q' r' u'] := by
 obtain ⟨vs, b0, b1, b2, b3, rfl, h1, h2⟩ := h
 obtain ⟨v, rest, ⟨op, n, bv, bt⟩⟩ := c
 obtain ⟨vs', ts', he, h3, h4, h5, h6⟩ := trmR_iff.1 h2
 simp only [List.cons.injEq, and_true] at he
 obtain ⟨rfl, rfl, rfl, rfl⟩ := he
 obtain ⟨ov, lv, cv, rfl⟩ := h1.form
 obtain ⟨q, r, u, rfl⟩ := h5.form
 obtain ⟨q', r', u', rfl⟩ := h6.form
 exact ⟨_, _, _, _, _, _, _, _, _, rfl, h1, h2⟩
end
section
open Go Go.RowKit
namespace Peep
open Unt
end Peep
theorem sameProc_self (p : Proc) (hal : p.alive = []) (c0 c1 c2 c3 c4 d0 d1 d2 d3 d4 : Value) (B : Nat) (w : World) (hx : ProcR w B p [c0, c1, c2, c3, c4]) (hy : ProcR w B p [d0, d1, d2, d3, d4]) (hB : B ≤ w.heap.size) (hm : p.code.length ≤ 100000) :
  Calls Tryz.prog 45 #[.agg #[c0, c1, c2, c3, c4], .agg #[d0, d1, d2, d3, d4]] w fun e w' => e = .returned (.bool true) ∧ Below w.heap.size w w' := by
 obtain ⟨args, rest, regs, code, alive⟩ := p
 dsimp only at hal hm
 subst hal
 obtain ⟨sl, al, he, _, _, hsl, hal⟩ := hx
 obtain ⟨sl', al', he', _, _, hsl', hal'⟩ := hy
 simp only [List.cons.injEq, and_true] at he he'
 obtain ⟨rfl, rfl, rfl, rfl, rfl⟩ := he
 obtain ⟨rfl, rfl, rfl, rfl, rfl⟩ := he'
 obtain ⟨o, m, c, rfl⟩ := hsl.form
 obtain ⟨o', m', c', rfl⟩ := hsl'.form
 obtain ⟨oa, la, ca, rfl⟩ := hal.form
 obtain ⟨oa', la', ca', rfl⟩ := hal'.form
 obtain rfl : la = 0 := hal.lens.1
 obtain rfl : la' = 0 := hal'.lens.1
 dsimp only at hsl hsl'
 have HM := Lib.hid hsl.lens.1
 have hmm : m' = m := by rw [hsl'.lens.1, hsl.lens.1]
 subst hmm
 have hmle : m' ≤ 100000 := by rw [hsl.lens.1]; exact hm
 have HS := Lib.hid hsl
 have HS' := Lib.hid hsl'
 obtain ⟨W, hW⟩ : ∃ W, (w.alloc (.cells #[.int .i64 args, .bool rest, .int .i64 regs, .slice o m' c, .slice oa 0 ca] 31)).alloc (.cells #[.int .i64 args, .bool rest, .int .i64 regs, .slice o' m' c', .slice oa' 0 ca'] 31) = W := ⟨_, rfl⟩
 have HX := Lib.hid (show BoxL W w.heap.size 31 [.int .i64 args, .bool rest, .int .i64 regs, .slice o m' c, .slice oa 0 ca] from by rw [← hW]; exact (BoxL.new rfl _ _).alloc _)
 have HY := Lib.hid (show BoxL W (w.heap.size + 1) 31 [.int .i64 args, .bool rest, .int .i64 regs, .slice o' m' c', .slice oa' 0 ca'] from by rw [← hW]; exact BoxL.new (by simp) _ _)
 have HWB := Lib.hid (show Below w.heap.size w W from by rw [← hW]; exact (Below.one w _).trans ((Below.one _ _).mono (by simp)))
 have HWE := Lib.hid hW
 have HR0 := Lib.hid (Below.refl W.heap.size W)
 clear hsl hsl' hal hal' hm hW
 go_enter Tryz.func45, Tryz.ntmps45
 go_upto_region 4 with fail
 rw [HWE.out]
 go_wp2_with fail
 go_loopg [5] m' (fun G i wr => ∃ j : Nat, G = m' - j ∧ j ≤ m' ∧ i = .int .i64 j ∧ Hid (Below W.heap.size W wr))
 case atStart => exact ⟨0, rfl, by omega, rfl, HR0⟩
 case round =>
  obtain ⟨j, rfl, hj, rfl, HW⟩ := hrel
  clear HR0
  have x3 := (HX.out.keep HW.out).cell 3 rfl
  have y3 := (HY.out.keep HW.out).cell 3 rfl
  have x4 := (HX.out.keep HW.out).cell 4 rfl
  have hxl := (HX.out.keep HW.out).lt
  have hyl := (HY.out.keep HW.out).lt
  have HBW := Lib.hid (show Below B w wr from (Below.next HWB.out HW.out).mono hB)
  by_cases hjm : j < m'
  ·obtain ⟨x, hx⟩ : ∃ x, code[j]? = some x := ⟨_, List.getElem?_eq_getElem (by rw [← HM.out]; exact hjm)⟩
   obtain ⟨b1, f1, cs1, ho1, hb1, hcl1, hcell1, hi1⟩ := HS.out.at HBW.out hx
   obtain ⟨b2, f2, cs2, ho2, hb2, hcl2, hcell2, hi2⟩ := HS'.out.at HBW.out hx
   subst ho1 ho2
   match cs1, hcl1, cs2, hcl2 with
   | [s0, s1, s2, s3, s4], _, [t0, t1, t2, t3, t4], _ =>
    have e0 := hcell1 0 _ rfl
    have e1 := hcell1 1 _ rfl
    have e2 := hcell1 2 _ rfl
    have e3 := hcell1 3 _ rfl
    have e4 := hcell1 4 _ rfl
    have g0 := hcell2 0 _ rfl
    have g1 := hcell2 1 _ rfl
    have g2 := hcell2 2 _ rfl
    have g3 := hcell2 3 _ rfl
    have g4 := hcell2 4 _ rfl
    rw [Nat.add_zero] at e0 g0
    have hws : w.heap.size ≤ wr.heap.size := (Below.next HWB.out HW.out).size
    have HJ := Lib.hid (fun (V : World) (hV : V = wr.drew) => sameIns_self x s0 s1 s2 s3 s4 t0 t1 t2 t3 t4 B V (hi1.kept (by rw [hV]; exact HBW.out.drew)) (hi2.kept (by rw [hV]; exact HBW.out.drew)) (by rw [hV]; exact Nat.le_trans hB hws))
    obtain ⟨op, d, a, b, l⟩ := x
    obtain ⟨sl1, he1, _, _, _, _, hl1⟩ := hi1
    obtain ⟨sl2, he2, _, _, _, _, hl2⟩ := hi2
    obtain ⟨p1, n1, q1, rfl⟩ := hl1.form
    obtain ⟨p2, n2, q2, rfl⟩ := hl2.form
    simp only [List.cons.injEq, and_true] at he1 he2
    obtain ⟨rfl, rfl, rfl, rfl, rfl⟩ := he1
    obtain ⟨rfl, rfl, rfl, rfl, rfl⟩ := he2
    have hbl1 := cell_lt e0
    have hbl2 := cell_lt g0
    clear hcell1 hcell2 hcl1 hcl2 hl1 hl2 hx
    go_upto_region 6 with fail
    refine wp_region_quiet_class (fun V => V = wr.drew) 10 (by kernel_rfl) (by kernel_rfl) rfl ?_
    intro T _ Wd HWd HWd2
    have a0 := fun s => cell_qd (HWd s) e0
    have a1 := fun s => cell_qd (HWd s) e1
    have a2 := fun s => cell_qd (HWd s) e2
    have a3 := fun s => cell_qd (HWd s) e3
    have a4 := fun s => cell_qd (HWd s) e4
    have b0 := fun s => cell_qd (HWd s) g0
    have b1' := fun s => cell_qd (HWd s) g1
    have b2' := fun s => cell_qd (HWd s) g2
    have b3 := fun s => cell_qd (HWd s) g3
    have b4 := fun s => cell_qd (HWd s) g4
    have z1 := fun s => cell_qd (HWd s) x3
    have z2 := fun s => cell_qd (HWd s) y3
    have HWH := Lib.hid HWd
    clear HWd HWd2
    simp only [List.take_succ_cons, List.take_zero, List.drop_succ_cons, List.drop_zero]
    repeat (go_big_quiet_step (fail))
    refine wpQuiet_nil ?_
    intro s
    go_wp2_with fail
    refine (HJ.out _ (HWH.out s)).mono ?_
    rintro e w7 ⟨rfl, hb7⟩
    have HW7 := Lib.hid (show Below W.heap.size W w7 from Below.next (by rw [HWH.out s]; exact HW.out.drew) hb7)
    clear hb7 HJ a0 a1 a2 a3 a4 b0 b1' b2' b3 b4 z1 z2 e0 e1 e2 e3 e4 g0 g1 g2 g3 g4
    go_wp2_with fail
    go_roundg (m' - (j + 1))
    case measure => omega
    case rel => exact ⟨j + 1, rfl, by omega, by go_num, HW7⟩
  ·obtain rfl : j = m' := by omega
   have HWF := Lib.hid (Below.next HWB.out HW.out)
   have HZ := Lib.hid (Below.refl wr.heap.size wr)
   obtain ⟨wo, rfl⟩ : ∃ wo : World, wo = wr := ⟨_, rfl⟩
   go_wp2_with fail
   go_loopg [6] 0 (fun G i wq => G = 0 ∧ i = .int .i64 0 ∧ wo = wq)
   case atStart => exact ⟨rfl, rfl, rfl⟩
   case round =>
    obtain ⟨rfl, rfl, rfl⟩ := hrel
    go_wp2_with fail
    go_ret
    exact ⟨rfl, HWF.out⟩
end
section
open Go Go.RowKit
end
end Go.Proofs.YtigkhmppnnljiaaGreatDoor

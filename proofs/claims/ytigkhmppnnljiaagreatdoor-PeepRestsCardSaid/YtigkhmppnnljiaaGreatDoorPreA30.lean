/-
  What the proofs lean on: MkC, MkLst, MkVal, Zk.
-/
import Derived.Test.YtigkhmppnnljiaaGreatDoorPreA21
import Derived.Test.YtigkhmppnnljiaaGreatDoorPreA29
set_option maxRecDepth 100000
set_option maxHeartbeats 16000000
namespace Go.Proofs.YtigkhmppnnljiaaGreatDoor
section
open Go Go.RowKit Mk
structure PartAt (W : World) (B b o : Nat) (x : Trm) (c0 c1 c2 c3 : Value) : Prop where
 lt : b < B
 e0 : W.cell? ⟨b, o, none⟩ = some c0
 e1 : W.cell? ⟨b, o + 1, none⟩ = some c1
 e2 : W.cell? ⟨b, o + 2, none⟩ = some c2
 e3 : W.cell? ⟨b, o + 3, none⟩ = some c3
 r : TrmR W B x [c0, c1, c2, c3]
theorem PartAt.kept {W W' : World} {B b o : Nat} {x : Trm} {c0 c1 c2 c3 : Value} (h : PartAt W B b o x c0 c1 c2 c3) (hb : Below B W W') : PartAt W' B b o x c0 c1 c2 c3 :=
 ⟨h.lt, (hb.cell (p := ⟨b, o, none⟩) h.lt).trans h.e0, (hb.cell (p := ⟨b, o + 1, none⟩) h.lt).trans h.e1, (hb.cell (p := ⟨b, o + 2, none⟩) h.lt).trans h.e2, (hb.cell (p := ⟨b, o + 3, none⟩) h.lt).trans h.e3, TrmR.kept hb _ _ h.r⟩
theorem PartAt.size {W : World} {B b o : Nat} {x : Trm} {c0 c1 c2 c3 : Value} (h : PartAt W B b o x c0 c1 c2 c3) : b < W.heap.size := cell_lt h.e0
theorem TrmS.part {W : World} {B : Nat} {l : List Trm} {o : Option Addr} {len cap : Nat} (h : TrmS W B l (.slice o len cap)) {i : Nat} {x : Trm} (hx : l[i]? = some x) : ∃ b off c0 c1 c2 c3, o = some ⟨b, off, none⟩ ∧ PartAt W B b (off + i * 4) x c0 c1 c2 c3 := by
 obtain ⟨b, off, cs, ho, hlt, hcl, hcell, hr⟩ := SlC.at h (Below.refl _ _) hx
 match cs, hcl with
 | [c0, c1, c2, c3], _ => exact ⟨b, off, c0, c1, c2, c3, ho, hlt, by simpa using hcell 0 _ rfl, hcell 1 _ rfl, hcell 2 _ rfl, hcell 3 _ rfl, hr⟩
theorem SlC.int {W : World} {B : Nat} {l : List Int} {o : Option Addr} {len cap : Nat} (h : SlC W B 1 IntR l (.slice o len cap)) {j : Nat} {x : Int} (hx : l[j]? = some x) : ∃ b off, o = some ⟨b, off, none⟩ ∧ b < B ∧ W.cell? ⟨b, off + j, none⟩ = some (.int .i64 x) ∧ I64 x := by
 obtain ⟨b, off, cs, ho, hlt, _, hcell, rfl, hi⟩ := h.at (Below.refl _ _) hx
 exact ⟨b, off, ho, hlt, by simpa using hcell 0 _ rfl, hi⟩
end
section
namespace Mk
def Lst (N : Nat) (s : MSt) : Prop := ∀ x ∈ s.code, x.l.length ≤ N
theorem Lst.put {N : Nat} {s : MSt} (h : Lst N s) {x : Ins} (hx : x.l.length ≤ N) : Lst N (s.put x) := fun y hy => by
 rcases List.mem_append.1 hy with hy | hy
 ·exact h y hy
 ·rw [List.mem_singleton.1 hy]; exact hx
theorem Lst.same {N : Nat} {s t : MSt} (h : Lst N s) (e : t.code = s.code) : Lst N t := fun y hy => h y (by rw [← e]; exact hy)
theorem mem_modify {f : Ins → Ins} : ∀ {l : List Ins} {k : Nat} {x : Ins}, x ∈ l.modify k f → x ∈ l ∨ ∃ y ∈ l, x = f y
 | [], k, x, h => by cases k <;> simp at h
 | y :: l, 0, x, h => by
  simp only [List.modify_zero_cons, List.mem_cons] at h
  rcases h with h | h
  ·exact .inr ⟨y, by simp, h⟩
  ·exact .inl (by simp [h])
 | y :: l, k + 1, x, h => by
  simp only [List.modify_succ_cons, List.mem_cons] at h
  rcases h with h | h
  ·exact .inl (by simp [h])
  ·rcases mem_modify h with h | ⟨z, hz, h⟩
   ·exact .inl (by simp [h])
   ·exact .inr ⟨z, by simp [hz], h⟩
theorem Lst.setA {N : Nat} {s : MSt} (h : Lst N s) (k : Nat) (a : Int) : Lst N (s.setA k a) := fun y hy => by
 rcases mem_modify hy with hy | ⟨z, hz, rfl⟩
 ·exact h y hy
 ·exact h z hz
theorem Lst.setB {N : Nat} {s : MSt} (h : Lst N s) (k : Nat) (a : Int) : Lst N (s.setB k a) := fun y hy => by
 rcases mem_modify hy with hy | ⟨z, hz, rfl⟩
 ·exact h y hy
 ·exact h z hz
theorem Lst.ite {N : Nat} {c : Prop} [Decidable c] {a b : MSt} (ha : Lst N a) (hb : Lst N b) : Lst N (if c then a else b) := by split <;> assumption
theorem Lst.strict {N : Nat} {s : MSt} (h : Lst N s) (op n d : Int) {l : List Int} (hl : l.length ≤ N) : Lst N (strict op n d l s) := by
 have ht : l.tail.length ≤ N := by simp; omega
 unfold Mk.strict
 repeat' (refine Lst.ite ?_ ?_)
 all_goals first | exact h.put (Nat.zero_le _) | exact h.put ht | exact h.put hl | exact (h.put (Nat.zero_le _)).put (Nat.zero_le _) | exact h
theorem Lst.ended {N : Nat} {s : MSt} (h : Lst N s) (op n : Int) {l : List Int} (hl : l.length ≤ N) : Lst N (ended op n l s) := by
 have ht : l.tail.length ≤ N := by simp; omega
 unfold Mk.ended
 repeat' (refine Lst.ite ?_ ?_)
 all_goals first | exact h.put ht | exact h.put hl
theorem Lst.fix1 {N : Nat} : ∀ (v : List Int) (t : List Trm) {s : MSt}, Lst N s → Lst N (fix1 v t s)
 | [], t, s, h => by
  rw [Mk.fix1]
  ·exact h
  ·simp
 | v :: vs, [], s, h => by
  rw [Mk.fix1]
  ·exact h
  ·simp
 | v :: vs, x :: l, s, h => by
  rw [Mk.fix1]
  exact Lst.fix1 vs l (Lst.put (h.same rfl) (Nat.zero_le _))
theorem Lst.thens {N : Nat} {f g : Int → Bool → MSt → MSt} (hf : ∀ (d : Int) (e : Bool) (s : MSt), Lst N s → Lst N (f d e s)) (hg : ∀ (d : Int) (e : Bool) (s : MSt), Lst N s → Lst N (g d e s)) (c d : Int) (e : Bool) {s : MSt} (h : Lst N s) : Lst N (thens f g c d e s) := by
 have h2 : Lst N (f d e (s.put ⟨16, 0, c, 0, []⟩)) := hf _ _ _ (h.put (Nat.zero_le _))
 unfold Mk.thens
 dsimp only
 cases e with
 | true => exact hg _ _ _ (h2.setB _ _)
 | false => exact Lst.setA (hg _ _ _ (Lst.setB (h2.put (Nat.zero_le _)) _ _)) _ _
theorem Lst.had {N : Nat} {lk : List (Int × Int) → Int → Int} (x : Trm) (hx : ∀ (d : Int) (e : Bool) (s : MSt), Lst N s → Lst N (into lk x d e s)) {s : MSt} (h : Lst N s) : Lst N (hadW lk x.op x.n (into lk x) s).2 := by
 unfold hadW
 split
 ·exact h
 ·exact hx _ _ _ (h.same rfl)
theorem allT_short (lk : List (Int × Int) → Int → Int) (t : List Trm) (s : MSt) {N : Nat} (h : Trm.allL t ≤ N) : (allT lk t s).1.length ≤ N := by
 have h1 := allT_length lk t s
 have h2 := Trm.allL_length t
 omega
mutual
theorem Lst.into {N : Nat} {lk : List (Int × Int) → Int → Int} : ∀ (x : Trm) (d : Int) (e : Bool) (s : MSt), x.all ≤ N → Lst N s → Lst N (into lk x d e s)
 | .mk op n v t, d, e, s, hN, h => by
  have ht : Trm.allL t ≤ N := by rw [Trm.all] at hN; omega
  rw [Mk.into]
  split
  ·exact Lst.choice t d e s ht h
  split
  ·exact Lst.seqs t d e s ht h
  split
  ·exact Lst.lets t v [] d e s ht h
  split
  ·exact Lst.fixs t v d e _ ht (h.fix1 v t)
  split
  ·split
   ·exact Lst.ended (Lst.allT t s ht h) _ _ (allT_short lk t s ht)
   ·split
    ·exact h.put (Nat.zero_le _)
    ·exact Lst.put (Lst.strict (Lst.allT t s.fresh ht (h.same rfl)) _ _ _ (allT_short lk t _ ht)) (Nat.zero_le _)
  ·split
   ·exact h.put (Nat.zero_le _)
   ·exact Lst.strict (Lst.allT t s ht h) _ _ _ (allT_short lk t s ht)
theorem Lst.choice {N : Nat} {lk : List (Int × Int) → Int → Int} : ∀ (l : List Trm) (d : Int) (e : Bool) (s : MSt), Trm.allL l ≤ N → Lst N s → Lst N (choice lk l d e s)
 | [a, b, x], d, e, s, hN, h => by
  simp only [Trm.allL] at hN
  rw [Mk.choice]
  exact Lst.thens (fun d e s hs => Lst.into b d e s (by omega) hs) (fun d e s hs => Lst.into x d e s (by omega) hs) _ _ _ (Lst.had a (fun d e s hs => Lst.into a d e s (by omega) hs) h)
 | [], _, _, _, _, h => by rw [Mk.choice]; exact h; all_goals simp
 | [_], _, _, _, _, h => by rw [Mk.choice]; exact h; all_goals simp
 | [_, _], _, _, _, _, h => by rw [Mk.choice]; exact h; all_goals simp
 | _ :: _ :: _ :: _ :: _, _, _, _, _, h => by rw [Mk.choice]; exact h; all_goals simp
theorem Lst.allT {N : Nat} {lk : List (Int × Int) → Int → Int} : ∀ (l : List Trm) (s : MSt), Trm.allL l ≤ N → Lst N s → Lst N (allT lk l s).2
 | [], s, _, h => by rw [Mk.allT]; exact h
 | x :: l, s, hN, h => by
  rw [Trm.allL] at hN
  rw [Mk.allT]
  exact Lst.allT l _ (by omega) (Lst.had x (fun d e s hs => Lst.into x d e s (by omega) hs) h)
theorem Lst.seqs {N : Nat} {lk : List (Int × Int) → Int → Int} : ∀ (l : List Trm) (d : Int) (e : Bool) (s : MSt), Trm.allL l ≤ N → Lst N s → Lst N (seqs lk l d e s)
 | [], _, _, s, _, h => by rw [Mk.seqs]; exact h
 | [x], d, e, s, hN, h => by
  rw [Trm.allL] at hN
  rw [Mk.seqs]
  exact Lst.into x d e s (by omega) h
 | x :: y :: l, d, e, s, hN, h => by
  rw [Trm.allL] at hN
  rw [Mk.seqs]
  exact Lst.seqs (y :: l) d e _ (by omega) (Lst.had x (fun d e s hs => Lst.into x d e s (by omega) hs) h)
theorem Lst.lets {N : Nat} {lk : List (Int × Int) → Int → Int} : ∀ (l : List Trm) (v rs : List Int) (d : Int) (e : Bool) (s : MSt), Trm.allL l ≤ N → Lst N s → Lst N (lets lk l v rs d e s)
 | [], _, _, _, _, s, _, h => by rw [Mk.lets]; exact h
 | [x], v, rs, d, e, s, hN, h => by
  rw [Trm.allL] at hN
  rw [Mk.lets]
  exact Lst.into x d e _ (by omega) (h.same rfl)
 | x :: y :: l, v, rs, d, e, s, hN, h => by
  rw [Trm.allL] at hN
  rw [Mk.lets]
  exact Lst.lets (y :: l) v _ d e _ (by omega) (Lst.had x (fun d e s hs => Lst.into x d e s (by omega) hs) h)
theorem Lst.fixs {N : Nat} {lk : List (Int × Int) → Int → Int} : ∀ (l : List Trm) (v : List Int) (d : Int) (e : Bool) (s : MSt), Trm.allL l ≤ N → Lst N s → Lst N (fixs lk l v d e s)
 | [], _, _, _, s, _, h => by rw [Mk.fixs]; exact h
 | [x], v, d, e, s, hN, h => by
  rw [Trm.allL] at hN
  rw [Mk.fixs]
  exact Lst.into x d e s (by omega) h
 | .mk o m w t :: y :: l, v, d, e, s, hN, h => by
  rw [Trm.allL, Trm.all] at hN
  rw [Mk.fixs]
  exact Lst.fixs (y :: l) v.tail d e _ (by omega) (Lst.put (Lst.allT t s (by omega) h) (allT_short lk t s (by omega)))
end
theorem proc_lists (lk : List (Int × Int) → Int → Int) (c : Cod) {N : Nat} (h : c.body.all ≤ N) : ∀ x ∈ (proc lk c).code, x.l.length ≤ N := by
 unfold proc
 exact Lst.into c.body 0 true _ h (fun x hx => by cases hx)
end Mk
end
section
open Go Go.RowKit Mk
theorem IntsM.rest1 {W : World} {S : Nat → Prop} {r0 : Int} {rl : List Int} {b off : Nat} (h : IntsM W S (r0 :: rl) (.slice (some ⟨b, off, none⟩) (rl.length + 1) 1)) : IntsM W S rl (.slice (some ⟨b, off, none⟩) 0 0) := by
 have hl := h.1.lens.2.1
 obtain rfl : rl = [] := List.eq_nil_of_length_eq_zero (by omega)
 exact ⟨⟨_, 0, 0, rfl, rfl, Nat.le_refl _, by omega, fun h => absurd rfl h, fun i x hx => by simp at hx⟩, fun _ _ h => absurd rfl h⟩
theorem IntsM.rest2 {W : World} {S : Nat → Prop} {r0 : Int} {rl : List Int} {b off cl : Nat} (h : IntsM W S (r0 :: rl) (.slice (some ⟨b, off, none⟩) (rl.length + 1) cl)) (_hc : ¬ cl = 1) : IntsM W S rl (.slice (some ⟨b, off + 1, none⟩) rl.length (cl - 1)) := by
 simpa using IntsM.drops (n := 1) h (by omega)
end
section
open Go Go.RowKit Mk
structure KV where
 c : Value
 v : Value
 a : Value
def SZ (mb : Nat) (K : KV) (b : Nat) : Prop := b = mb ∨ K.c.ownBlock = some b ∨ K.v.ownBlock = some b ∨ K.a.ownBlock = some b
structure ZkS (W : World) (base mb : Nat) (K : KV) (X : Nat → Prop) (s : MSt) : Prop where
 box : BoxL W mb 119 [K.c, .int .i64 s.regs, K.v, K.a]
 row : ∃ xs, W.ownsRow base 34 5 K.c s.code.length xs ∧ CellsG 5 (InsM W (fun b => SZ mb K b ∨ X b)) s.code xs
 vars : W.ownsRow base 3 1 K.v s.vars.length (s.vars.map fun p => Value.int .i64 p.1)
 regs : W.ownsRow base 3 1 K.a s.vars.length (s.vars.map fun p => Value.int .i64 p.2)
 ne : ∀ b, K.v.ownBlock = some b → K.a.ownBlock ≠ some b
 i64 : ∀ p ∈ s.vars, I64 p.1 ∧ I64 p.2
theorem row_box_ne {W : World} {base n size b c : Nat} {e t : TypeId} {v : Value} {xs cs : List Value} (h : W.ownsRow base e size v n xs) (hb : v.ownBlock = some b) (hc : BoxL W c t cs) (ht : e ≠ t) : b ≠ c := fun h' => by
 subst h'
 obtain ⟨cs', f, hr⟩ := own_row h b hb
 have e := hr.symm.trans hc
 simp only [Option.some.injEq, Obj.cells.injEq] at e
 exact ht e.2.1
theorem row_row_ne {W : World} {base base' n n' size size' b c : Nat} {e t : TypeId} {v v' : Value} {xs cs : List Value} (h : W.ownsRow base e size v n xs) (hb : v.ownBlock = some b) (h' : W.ownsRow base' t size' v' n' cs) (hc : v'.ownBlock = some c) (ht : e ≠ t) : b ≠ c := fun e' => by
 subst e'
 obtain ⟨cs', f, hr⟩ := own_row h b hb
 obtain ⟨cs'', f', hr'⟩ := own_row h' b hc
 have e := hr.symm.trans hr'
 simp only [Option.some.injEq, Obj.cells.injEq] at e
 exact ht e.2.1
theorem ZkS.lt {W : World} {base mb : Nat} {K : KV} {X : Nat → Prop} {s : MSt} (h : ZkS W base mb K X s) : ∀ b, SZ mb K b → b < W.heap.size := fun b hb => by
 rcases hb with rfl | hb | hb | hb
 ·exact h.box.lt
 ·obtain ⟨xs, hr, _⟩ := h.row
  exact ownBlock_lt hr hb
 ·exact ownBlock_lt h.vars hb
 ·exact ownBlock_lt h.regs hb
theorem ZkS.keep {W W' : World} {base mb : Nat} {K : KV} {X X' : Nat → Prop} {s : MSt} {S : Nat → Prop} (h : ZkS W base mb K X s) (ht : Turned S W W') (hS : ∀ b, b < W.heap.size → S b → X b ∧ ¬ SZ mb K b) (hX : ∀ b, b < W.heap.size → X' b → X b) : ZkS W' base mb K X' s := by
 obtain ⟨xs, hr, hc⟩ := h.row
 have hn : ∀ b, SZ mb K b → W'.heap[b]? = W.heap[b]? := fun b hb => ht.block b (h.lt b hb) (fun hs => (hS _ (h.lt b hb) hs).2 hb)
 exact ⟨(hn mb (.inl rfl)).trans h.box, ⟨xs, row_same hr (fun c hc => hn c (.inr (.inl hc))), hc.mono fun x _ cs hx => hx.kept ht (fun b hb hs => .inr (hS b hb hs).1) (fun b hb h => h.imp id (hX b hb))⟩, row_same h.vars (fun c hc => hn c (.inr (.inr (.inl hc)))), row_same h.regs (fun c hc => hn c (.inr (.inr (.inr hc)))), h.ne, h.i64⟩
theorem ZkS.below {W W' : World} {base mb : Nat} {K : KV} {X : Nat → Prop} {s : MSt} (h : ZkS W base mb K X s) (hb : Below W.heap.size W W') : ZkS W' base mb K X s := h.keep (Turned.of_below (S := fun _ => False) hb) (fun _ _ h => h.elim) (fun _ _ h => h)
structure ZkIn (W : World) (B base mb : Nat) (K : KV) (X : Nat → Prop) (s : MSt) : Prop where
 st : ZkS W base mb K X s
 b1 : B ≤ base
 b2 : B ≤ mb
 b4 : base ≤ W.heap.size
 bx : ∀ b, X b → b < W.heap.size
theorem ZkIn.low {W : World} {B base mb : Nat} {K : KV} {X : Nat → Prop} {s : MSt} (h : ZkIn W B base mb K X s) : ∀ b, SZ mb K b → B ≤ b := fun b hb => by
 rcases hb with rfl | hb | hb | hb
 ·exact h.b2
 ·obtain ⟨xs, hr, _⟩ := h.st.row
  exact Nat.le_trans h.b1 (ownBlock_base hr hb)
 ·exact Nat.le_trans h.b1 (ownBlock_base h.st.vars hb)
 ·exact Nat.le_trans h.b1 (ownBlock_base h.st.regs hb)
theorem ZkIn.size {W : World} {B base mb : Nat} {K : KV} {X : Nat → Prop} {s : MSt} (h : ZkIn W B base mb K X s) : B ≤ W.heap.size := Nat.le_trans h.b1 h.b4
theorem ZkIn.keep {W W' : World} {B base mb : Nat} {K : KV} {X : Nat → Prop} {s : MSt} (h : ZkIn W B base mb K X s) (hb : Below W.heap.size W W') : ZkIn W' B base mb K X s := ⟨h.st.below hb, h.b1, h.b2, Nat.le_trans h.b4 hb.size, fun b hb' => Nat.lt_of_lt_of_le (h.bx b hb') hb.size⟩
theorem ZkIn.turn {W : World} {B base mb : Nat} {K : KV} {X X' : Nat → Prop} {s : MSt} (h : ZkIn W B base mb K X s) (hX : ∀ b, b < W.heap.size → X' b → X b) (hx : ∀ b, X' b → b < W.heap.size) : ZkIn W B base mb K X' s := ⟨h.st.keep (Turned.refl (fun _ => False) W) (fun _ _ h => h.elim) hX, h.b1, h.b2, h.b4, hx⟩
structure ZkGo (B base mb : Nat) (K K' : KV) (X : Nat → Prop) (s' : MSt) (w w' : World) : Prop where
 inn : ZkIn w' B base mb K' X s'
 turned : Turned (SZ mb K) w w'
 less : ∀ b, b < w.heap.size → SZ mb K' b → SZ mb K b
 low : Below B w w'
theorem ZkGo.refl {B base mb : Nat} {K : KV} {X : Nat → Prop} {s : MSt} {w : World} (h : ZkIn w B base mb K X s) : ZkGo B base mb K K X s w w := ⟨h, Turned.refl _ _, fun _ _ h => h, Below.refl _ _⟩
theorem ZkGo.next {B base mb : Nat} {K K' K'' : KV} {X X' : Nat → Prop} {s' s'' : MSt} {w w' w'' : World} (h : ZkGo B base mb K K' X s' w w') (h' : ZkGo B base mb K' K'' X' s'' w' w'') : ZkGo B base mb K K'' X' s'' w w'' :=
 ⟨h'.inn, h.turned.trans h'.turned h.less, fun b hb hs => h.less b hb (h'.less b (Nat.lt_of_lt_of_le hb h.turned.size) hs), h.low.trans h'.low⟩
theorem ZkGo.before {B base mb : Nat} {K K' : KV} {X : Nat → Prop} {s' : MSt} {w w1 w' : World} (hb : Below w.heap.size w w1) (hB : B ≤ w.heap.size) (h : ZkGo B base mb K K' X s' w1 w') : ZkGo B base mb K K' X s' w w' :=
 ⟨h.inn, (Turned.of_below hb).next h.turned, fun b hlt hs => h.less b (Nat.lt_of_lt_of_le hlt hb.size) hs, (hb.mono hB).trans h.low⟩
theorem ZkGo.after {B base mb : Nat} {K K' : KV} {X : Nat → Prop} {s' : MSt} {w w1 w' : World} (h : ZkGo B base mb K K' X s' w w1) (hb : Below w1.heap.size w1 w') : ZkGo B base mb K K' X s' w w' :=
 h.next ⟨h.inn.keep hb, Turned.of_below hb, fun _ _ h => h, hb.mono h.inn.size⟩
theorem ZkS.boxApart {W : World} {base mb b : Nat} {K : KV} {X : Nat → Prop} {s : MSt} {t : TypeId} {cs : List Value} (h : ZkS W base mb K X s) (hb : BoxL W b t cs) (h1 : t ≠ 119) (h2 : t ≠ 34) (h3 : t ≠ 3) : ¬ SZ mb K b := fun hs => by
 rcases hs with rfl | hs | hs | hs
 ·have e := (show W.heap[b]? = _ from h.box).symm.trans hb
  simp only [Option.some.injEq, Obj.cells.injEq] at e
  exact h1 e.2.1.symm
 ·obtain ⟨xs, hr, _⟩ := h.row
  exact row_box_ne hr hs hb h2.symm rfl
 ·exact row_box_ne h.vars hs hb h3.symm rfl
 ·exact row_box_ne h.regs hs hb h3.symm rfl
theorem ZkGo.box {B base mb b : Nat} {K K' : KV} {X X' : Nat → Prop} {s s' : MSt} {w w' : World} {t : TypeId} {cs : List Value} (h : ZkGo B base mb K K' X s' w w') (hi : ZkIn w B base mb K X' s) (hb : BoxL w b t cs) (h1 : t ≠ 119) (h2 : t ≠ 34) (h3 : t ≠ 3) : BoxL w' b t cs := h.turned.box hb (hi.st.boxApart hb h1 h2 h3)
theorem IntsM.goZ {B base mb : Nat} {K K' : KV} {v : Value} {X : Nat → Prop} {s : MSt} {w w' : World} {l : List Int} (h : IntsM w (fun b => SZ mb K b ∨ X b) l v) (hg : ZkGo B base mb K K' X s w w') : IntsM w' (fun b => SZ mb K' b ∨ X b) l v := h.kept hg.turned (fun _ _ h => .inl h) (fun b hb h => h.imp (hg.less b hb) id)
theorem own_form {W : World} {base n size : Nat} {e : TypeId} {v : Value} {xs : List Value} (h : W.ownsRow base e size v n xs) : ∃ o c, v = .slice o n c := by
 rcases h.2 with ⟨h1, h2⟩ | ⟨g, cap, cur, h1, _⟩
 ·rw [h1]
  have : n = 0 := by
   have := h2
   first | exact this | exact this.1 | omega
  rw [this]
  exact ⟨_, _, rfl⟩
 ·exact ⟨_, _, h1⟩
theorem ZkS.fresh {W : World} {base mb : Nat} {K : KV} {X : Nat → Prop} {s : MSt} (h : ZkS W base mb K X s) : ZkS (W.setCell ⟨mb, 1, none⟩ (.int .i64 (s.regs + 1))) base mb K X s.fresh := by
 obtain ⟨xs, hr, hc⟩ := h.row
 have hT : Turned (fun b => b = mb) W (W.setCell ⟨mb, 1, none⟩ (.int .i64 (s.regs + 1))) := Turned.set _ _ _ rfl
 have ho : ∀ c, c ≠ mb → (W.setCell ⟨mb, 1, none⟩ (.int .i64 (s.regs + 1))).heap[c]? = W.heap[c]? := fun c hc => setCell_heap_other _ _ _ hc
 exact ⟨h.box.set 1 _, ⟨xs, row_same hr (fun c hcc => ho c (row_box_ne hr hcc h.box (by decide))), hc.mono fun x _ cs hx => hx.kept hT (fun b _ hb => .inl (.inl hb)) (fun _ _ h => h)⟩, row_same h.vars (fun c hcc => ho c (row_box_ne h.vars hcc h.box (by decide))), row_same h.regs (fun c hcc => ho c (row_box_ne h.regs hcc h.box (by decide))), h.ne, h.i64⟩
theorem zfresh_any {B base mb : Nat} {K : KV} {X : Nat → Prop} {s : MSt} (W : World) (h : ZkIn W B base mb K X s) (hr : Room s 1) :
  Calls Tryz.prog 147 #[.pointer (some ⟨mb, 0, none⟩)] W fun e w' => e = .returned (.int .i64 s.regs) ∧ ZkGo B base mb K K X s.fresh W w' := by
 have hT : Turned (SZ mb K) W (W.setCell ⟨mb, 1, none⟩ (.int .i64 (s.regs + 1))) := Turned.set _ _ _ (.inl rfl)
 have HG := Lib.hid (show ZkGo B base mb K K X s.fresh W (W.setCell ⟨mb, 1, none⟩ (.int .i64 (s.regs + 1))) from ⟨⟨h.st.fresh, h.b1, h.b2, Nat.le_trans h.b4 hT.size, fun b hb => Nat.lt_of_lt_of_le (h.bx b hb) hT.size⟩, hT, fun _ _ h => h, hT.below h.low h.size⟩)
 have hr1 := hr.2.1
 have hr2 := hr.2.2.1
 have HB := Lib.hid (h.st.box.set 1 (.int .i64 (s.regs + 1)))
 have x1 := h.st.box.cell 1 rfl
 have xz := h.st.box.free 1
 have xl := h.st.box.lt
 obtain ⟨W1, hW1⟩ : ∃ W1, W.setCell ⟨mb, 1, none⟩ (.int .i64 (s.regs + 1)) = W1 := ⟨_, rfl⟩
 have HW := Lib.hid hW1
 rw [hW1] at HG HB
 clear h hr hT hW1
 go_enter Tryz.func147, Tryz.ntmps147
 go_upto_region 2 with fail
 rw [HW.out]
 have y1 := HB.out.cell 1 rfl
 have yl := HB.out.lt
 clear x1 xz xl
 go_wp2_with fail
 go_ret
 exact ⟨by first | rfl | (congr 2; omega), HG.out⟩
theorem zregister_any {B base mb : Nat} {K : KV} {X : Nat → Prop} {s : MSt} (v : Int) (W : World) (h : ZkIn W B base mb K X s) (r : Int) (hr : lkF s.vars v = r) :
  Calls Tryz.prog 122 #[.pointer (some ⟨mb, 0, none⟩), .int .i64 v] W fun e w' => e = .returned (.int .i64 r) ∧ Below W.heap.size W w' := by
 obtain ⟨ov, cv, hv⟩ := own_form h.st.vars
 obtain ⟨oa, ca, ha⟩ := own_form h.st.regs
 obtain ⟨n, hn⟩ : ∃ n, s.vars.length = n := ⟨_, rfl⟩
 have HV := Lib.hid (show SlC W W.heap.size 1 IntR (s.vars.map Prod.fst) (.slice ov n cv) from by
  rw [← hn, ← hv]
  exact rowInts (by simpa [List.map_map, Function.comp_def] using h.st.vars) (fun x hx => by obtain ⟨p, hp, rfl⟩ := List.mem_map.1 hx; exact (h.st.i64 p hp).1))
 have HA := Lib.hid (show SlC W W.heap.size 1 IntR (s.vars.map Prod.snd) (.slice oa n ca) from by
  rw [← hn, ← ha]
  exact rowInts (by simpa [List.map_map, Function.comp_def] using h.st.regs) (fun x hx => by obtain ⟨p, hp, rfl⟩ := List.mem_map.1 hx; exact (h.st.i64 p hp).2))
 have bx := h.st.box
 rw [hv, ha, hn] at bx
 have x2 := bx.cell 2 rfl
 have x3 := bx.cell 3 rfl
 have xl := bx.lt
 have HN := Lib.hid hn
 have HR := Lib.hid hr
 have hn63 : n ≤ 9223372036854775807 := by have := HV.out.lens; omega
 clear h hv ha hn hr bx
 go_enter Tryz.func122, Tryz.ntmps122
 go_wp2_with fail
 go_loopg [5] n (fun g i wr => ∃ j : Nat, g = n - j ∧ j ≤ n ∧ i = .int .i64 j ∧ Hid (lkF (s.vars.drop j) v = r) ∧ W = wr)
 case atStart => exact ⟨0, rfl, by omega, rfl, Lib.hid (by simpa using HR.out), rfl⟩
 case round =>
  obtain ⟨j, rfl, hj, rfl, HJ, rfl⟩ := hrel
  by_cases hjl : j < n
  ·obtain ⟨p, hp⟩ : ∃ p, s.vars[j]? = some p := ⟨_, List.getElem?_eq_getElem (by rw [HN.out]; exact hjl)⟩
   obtain ⟨vb, voff, hvo, _, hvc, _⟩ := SlC.int HV.out (j := j) (x := p.1) (by simp [hp])
   obtain ⟨ab, aoff, hao, _, hac, _⟩ := SlC.int HA.out (j := j) (x := p.2) (by simp [hp])
   subst hvo hao
   have hvl := cell_lt hvc
   have hal := cell_lt hac
   have hd : s.vars.drop j = p :: s.vars.drop (j + 1) := by
    rw [List.drop_eq_getElem_cons (by rw [HN.out]; exact hjl)]
    rw [(List.getElem?_eq_some_iff.1 hp).2]
   by_cases hq : p.1 = v
   ·have q : (p.1 == v) = true := by simp [hq]
    obtain rfl : r = p.2 := by rw [← HJ.out, hd, lkF, if_pos hq]
    clear hq hd hp
    go_wp2_with fail
    go_ret
    exact ⟨rfl, Below.refl _ _⟩
   ·have q : (p.1 == v) = false := by simp [hq]
    have HJ2 := Lib.hid (show lkF (s.vars.drop (j + 1)) v = r from by rw [← HJ.out, hd, lkF, if_neg hq])
    clear hq hd hp
    go_wp2_with fail
    go_roundg (n - (j + 1))
    case measure => omega
    case rel => exact ⟨j + 1, rfl, by omega, by go_num, HJ2, rfl⟩
  ·obtain rfl : j = n := by omega
   obtain rfl : r = 0 := by
    rw [← HJ.out, List.drop_eq_nil_of_le (by rw [HN.out]; exact Nat.le_refl _), lkF]
   go_wp2_with fail
   go_ret
   exact ⟨rfl, Below.refl _ _⟩
end
end Go.Proofs.YtigkhmppnnljiaaGreatDoor

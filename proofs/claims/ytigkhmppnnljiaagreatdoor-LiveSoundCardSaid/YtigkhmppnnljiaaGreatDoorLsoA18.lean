/-
  What the proofs lean on: Fits, PClean.
-/
import Derived.WalkSpells
import Derived.Test.YtigkhmppnnljiaaGreatDoorLsoA10
import Derived.Test.YtigkhmppnnljiaaGreatDoorLsoA13
import Derived.Test.YtigkhmppnnljiaaGreatDoorLsoA14
import Derived.Test.YtigkhmppnnljiaaGreatDoorLsoA15
import Derived.Test.YtigkhmppnnljiaaGreatDoorLsoA16
set_option maxRecDepth 100000
set_option maxHeartbeats 16000000
namespace Go.Proofs.YtigkhmppnnljiaaGreatDoor
section
open Go.RowKit
theorem fits_any (k : Int) (d a b : Int) (l : List Int) (o : Option Addr) (len cap : Nat) (args regs : Int) (rest : Bool) (oc oa ok op : Option Addr) (lc cc la ca lk ck lp cp : Nat) (B : Nat) (w : World) (ha : -9223372036854775808 ≤ a ∧ a ≤ 9223372036854775807) (hv : SlC w B 1 IntR l (.slice o len cap)) (hB : B ≤ w.heap.size) (r : Bool) (hr : Unt.fits ⟨k, d, a, b, l⟩ regs lc lp lk = r) :
  Calls Tryz.prog 34 #[.agg #[.int .i64 k, .int .i64 d, .int .i64 a, .int .i64 b, .slice o len cap], .agg #[.int .i64 args, .bool rest, .int .i64 regs, .slice oc lc cc, .slice oa la ca], .agg #[.slice ok lk ck, .slice op lp cp]] w fun e w' => e = .returned (.bool r) ∧ Below w.heap.size w w' := by
 by_cases hk : k < 0 ∨ 22 < k
 ·exact fits_no k hk d a b l o len cap args regs rest oc oa ok op lc cc la ca lk ck lp cp B w ha hv hB r hr
 obtain ⟨n, rfl⟩ : ∃ n : Nat, k = n := ⟨k.toNat, by omega⟩
 have hn : n ≤ 22 := by omega
 clear hk
 match n, hn with
 | 0, _ => exact fits_0 d a b l o len cap args regs rest oc oa ok op lc cc la ca lk ck lp cp B w ha hv hB r hr
 | 1, _ => exact fits_1 d a b l o len cap args regs rest oc oa ok op lc cc la ca lk ck lp cp B w ha hv hB r hr
 | 2, _ => exact fits_2 d a b l o len cap args regs rest oc oa ok op lc cc la ca lk ck lp cp B w ha hv hB r hr
 | 3, _ => exact fits_3 d a b l o len cap args regs rest oc oa ok op lc cc la ca lk ck lp cp B w ha hv hB r hr
 | 4, _ => exact fits_4 d a b l o len cap args regs rest oc oa ok op lc cc la ca lk ck lp cp B w ha hv hB r hr
 | 5, _ => exact fits_5 d a b l o len cap args regs rest oc oa ok op lc cc la ca lk ck lp cp B w ha hv hB r hr
 | 6, _ => exact fits_6 d a b l o len cap args regs rest oc oa ok op lc cc la ca lk ck lp cp B w ha hv hB r hr
 | 7, _ => exact fits_7 d a b l o len cap args regs rest oc oa ok op lc cc la ca lk ck lp cp B w ha hv hB r hr
 | 8, _ => exact fits_8 d a b l o len cap args regs rest oc oa ok op lc cc la ca lk ck lp cp B w ha hv hB r hr
 | 9, _ => exact fits_9 d a b l o len cap args regs rest oc oa ok op lc cc la ca lk ck lp cp B w ha hv hB r hr
 | 10, _ => exact fits_10 d a b l o len cap args regs rest oc oa ok op lc cc la ca lk ck lp cp B w ha hv hB r hr
 | 11, _ => exact fits_11 d a b l o len cap args regs rest oc oa ok op lc cc la ca lk ck lp cp B w ha hv hB r hr
 | 12, _ => exact fits_12 d a b l o len cap args regs rest oc oa ok op lc cc la ca lk ck lp cp B w ha hv hB r hr
 | 13, _ => exact fits_13 d a b l o len cap args regs rest oc oa ok op lc cc la ca lk ck lp cp B w ha hv hB r hr
 | 14, _ => exact fits_14 d a b l o len cap args regs rest oc oa ok op lc cc la ca lk ck lp cp B w ha hv hB r hr
 | 15, _ => exact fits_15 d a b l o len cap args regs rest oc oa ok op lc cc la ca lk ck lp cp B w ha hv hB r hr
 | 16, _ => exact fits_16 d a b l o len cap args regs rest oc oa ok op lc cc la ca lk ck lp cp B w ha hv hB r hr
 | 17, _ => exact fits_17 d a b l o len cap args regs rest oc oa ok op lc cc la ca lk ck lp cp B w ha hv hB r hr
 | 18, _ => exact fits_18 d a b l o len cap args regs rest oc oa ok op lc cc la ca lk ck lp cp B w ha hv hB r hr
 | 19, _ => exact fits_19 d a b l o len cap args regs rest oc oa ok op lc cc la ca lk ck lp cp B w ha hv hB r hr
 | 20, _ => exact fits_20 d a b l o len cap args regs rest oc oa ok op lc cc la ca lk ck lp cp B w ha hv hB r hr
 | 21, _ => exact fits_21 d a b l o len cap args regs rest oc oa ok op lc cc la ca lk ck lp cp B w ha hv hB r hr
 | 22, _ => exact fits_22 d a b l o len cap args regs rest oc oa ok op lc cc la ca lk ck lp cp B w ha hv hB r hr
 | n + 23, h => omega
end
section
open Go.RowKit
def Inside (code : List Ins) : Prop := ∀ x ∈ code, (x.op = 15 → 0 ≤ x.a ∧ x.a < (code.length : Int)) ∧ (x.op = 16 → 0 ≤ x.b ∧ x.b < (code.length : Int))
theorem rows_apart {w : World} {b b' : Nat} {t t' : TypeId} {s s' n n' : Nat} {v v' : Value} {xs xs' : List Value} (h : w.ownsRow b t s v n xs) (h' : w.ownsRow b' t' s' v' n' xs') (hne : t ≠ t') : v.ownBlock = none ∨ v.ownBlock ≠ v'.ownBlock := by
 rcases h.2 with ⟨rfl, _⟩ | ⟨g, cap, cur, rfl, _, hg, _⟩
 ·exact .inl rfl
 ·right
  rcases h'.2 with ⟨rfl, _⟩ | ⟨g', cap', cur', rfl, _, hg', _⟩
  ·simp [Value.ownBlock]
  ·intro e
   simp only [Value.ownBlock, Option.some.injEq] at e
   subst e
   rw [hg] at hg'
   simp only [Option.some.injEq, Obj.cells.injEq] at hg'
   exact hne hg'.2.1
theorem ownsRow_set {W : World} {base n size : Nat} {e : TypeId} {v : Value} {xs : List Value} (h : W.ownsRow base e size v n xs) (a : Addr) (u : Value) (hne : ∀ g, v.ownBlock = some g → g ≠ a.block) : (W.setCell a u).ownsRow base e size v n xs :=
 h.kept (row := some a.block) ⟨rfl, rfl, rfl, by simp, fun k _ hk => setCell_heap_other W a u (fun e => hk (by rw [e]))⟩ (by
  cases hv : v.ownBlock with
  | none => exact .inl rfl
  | some g => exact .inr (fun e => hne g hv (by simpa using e)))
theorem ownsRow_base {W : World} {base base' n size : Nat} {e : TypeId} {v : Value} {xs : List Value} (h : W.ownsRow base e size v n xs) (hb : base' ≤ base) : W.ownsRow base' e size v n xs := by
 refine ⟨h.1, ?_⟩
 rcases h.2 with h' | ⟨g, cap, cur, h1, h2, h3⟩
 ·exact .inl h'
 ·exact .inr ⟨g, cap, cur, h1, Nat.le_trans hb h2, h3⟩
theorem box_news {W : World} {b : Nat} {t : TypeId} {cs : List Value} (h : BoxL W b t cs) : ∀ (j : Nat) (u : Value), cs[j]? = some u → W.cell? ((⟨b, 0, none⟩ : Addr).add j) = some u := by
 intro j u hj
 rw [add_none rfl]
 simpa using h.cell j hj
end
end Go.Proofs.YtigkhmppnnljiaaGreatDoor

/-
  What the proofs lean on: RNamed, MapV.
-/
import Derived.Maps.OwnSet
import Derived.WideKeyEntry
import Derived.Test.YtigkhmppnnljiaaGreatDoorFlatA10
namespace Go.Proofs.YtigkhmppnnljiaaGreatDoor
open Go.RowKit

/-- The registers that are named, and the one that is given a value. -/
def NamedPost (x : Ins) (w : World) (e : Ending) (w' : World) : Prop := ∃ sl, e = .returned (.tuple #[sl, .int .i64 (Unt.gives x)]) ∧ SlC w' w'.heap.size 1 IntR (Unt.named x) sl ∧ Below w.heap.size w w'
/-- A new array of ints. -/
theorem intsNew {W : World} {b B : Nat} (hb : b = W.heap.size) (hB : b < B) (t : TypeId) (l : List Int) (hl : ∀ x ∈ l, I64 x) (n : Nat) (hn : n = l.length) (hm : n ≤ 1000000) : SlC (W.alloc (.cells (l.map (Value.int .i64)).toArray t)) B 1 IntR l (.slice (some ⟨b, 0, none⟩) n n) := by
  subst hb
  refine ⟨_, n, n, rfl, hn, Nat.le_refl _, by omega, fun _ => ⟨rfl, hB⟩, fun i x hx => ⟨[.int .i64 x], rfl, fun j u hj => ?_, rfl, hl x (List.mem_of_getElem? hx)⟩⟩
  match j, hj with
  | 0, hj =>
    simp only [List.getElem?_cons_zero, Option.some.injEq] at hj
    subst hj
    have h1 : (l.map (Value.int .i64)).toArray[i]? = some (.int .i64 x) := by simp [hx]
    simpa using box_cell W _ t i h1

set_option maxHeartbeats 1000000 in
set_option maxRecDepth 100000 in
theorem named_0 (d a b : Int) (l : List Int) (o : Option Addr) (len cap : Nat) (B : Nat) (w : World) (ha : I64 a) (hb : I64 b) (hv : SlC w B 1 IntR l (.slice o len cap)) (_hB : B ≤ w.heap.size) (hmx : l.length ≤ 1000000) :
    Calls Tryz.prog 19 #[.agg #[.int .i64 0, .int .i64 d, .int .i64 a, .int .i64 b, .slice o len cap]] w (NamedPost ⟨0, d, a, b, l⟩ w) := by
  have HG : Unt.gives ⟨0, d, a, b, l⟩ = d := by simp [Unt.gives]
  have HN : Unt.named ⟨0, d, a, b, l⟩ = [] := by simp [Unt.named]
  unfold NamedPost
  rw [HG, HN]
  have HV := Lib.hid hv
  have HA := Lib.hid ha
  have HB := Lib.hid hb
  obtain ⟨hlen, hcap, hmax⟩ := hv.lens
  have HL := Lib.hid hlen
  have hmx' : len ≤ 1000000 := by omega
  clear HG HN hv ha hb hlen
  go_enter Tryz.func19, Tryz.ntmps19
  go_wp2_with fail
  go_ret2
  exact ⟨_, rfl, ⟨none, 0, 0, rfl, rfl, by omega, by omega, rfl, rfl⟩, Below.one _ _⟩

set_option maxHeartbeats 1000000 in
set_option maxRecDepth 100000 in
theorem named_1 (d a b : Int) (l : List Int) (o : Option Addr) (len cap : Nat) (B : Nat) (w : World) (ha : I64 a) (hb : I64 b) (hv : SlC w B 1 IntR l (.slice o len cap)) (_hB : B ≤ w.heap.size) (hmx : l.length ≤ 1000000) :
    Calls Tryz.prog 19 #[.agg #[.int .i64 1, .int .i64 d, .int .i64 a, .int .i64 b, .slice o len cap]] w (NamedPost ⟨1, d, a, b, l⟩ w) := by
  have HG : Unt.gives ⟨1, d, a, b, l⟩ = d := by simp [Unt.gives]
  have HN : Unt.named ⟨1, d, a, b, l⟩ = [a] := by simp [Unt.named]
  unfold NamedPost
  rw [HG, HN]
  have HV := Lib.hid hv
  have HA := Lib.hid ha
  have HB := Lib.hid hb
  obtain ⟨hlen, hcap, hmax⟩ := hv.lens
  have HL := Lib.hid hlen
  have hmx' : len ≤ 1000000 := by omega
  clear HG HN hv ha hb hlen
  go_enter Tryz.func19, Tryz.ntmps19
  go_wp2_with fail
  go_ret2
  exact ⟨_, rfl, intsNew (B := ((w.alloc (.cells #[.int .i64 1, .int .i64 d, .int .i64 a, .int .i64 b, .slice o len cap] 34)).alloc (.cells #[.int .i64 a] 3)).heap.size) (by simp) (by simp) 3 [a] (by simp [HA.out]) 1 rfl (by omega), (Below.one _ _).trans ((Below.one _ _).mono (by simp))⟩

set_option maxHeartbeats 1000000 in
set_option maxRecDepth 100000 in
theorem named_2 (d a b : Int) (l : List Int) (o : Option Addr) (len cap : Nat) (B : Nat) (w : World) (ha : I64 a) (hb : I64 b) (hv : SlC w B 1 IntR l (.slice o len cap)) (_hB : B ≤ w.heap.size) (hmx : l.length ≤ 1000000) :
    Calls Tryz.prog 19 #[.agg #[.int .i64 2, .int .i64 d, .int .i64 a, .int .i64 b, .slice o len cap]] w (NamedPost ⟨2, d, a, b, l⟩ w) := by
  have HG : Unt.gives ⟨2, d, a, b, l⟩ = d := by simp [Unt.gives]
  have HN : Unt.named ⟨2, d, a, b, l⟩ = [] := by simp [Unt.named]
  unfold NamedPost
  rw [HG, HN]
  have HV := Lib.hid hv
  have HA := Lib.hid ha
  have HB := Lib.hid hb
  obtain ⟨hlen, hcap, hmax⟩ := hv.lens
  have HL := Lib.hid hlen
  have hmx' : len ≤ 1000000 := by omega
  clear HG HN hv ha hb hlen
  go_enter Tryz.func19, Tryz.ntmps19
  go_wp2_with fail
  go_ret2
  exact ⟨_, rfl, ⟨none, 0, 0, rfl, rfl, by omega, by omega, rfl, rfl⟩, Below.one _ _⟩

set_option maxHeartbeats 1000000 in
set_option maxRecDepth 100000 in
theorem named_3 (d a b : Int) (l : List Int) (o : Option Addr) (len cap : Nat) (B : Nat) (w : World) (ha : I64 a) (hb : I64 b) (hv : SlC w B 1 IntR l (.slice o len cap)) (_hB : B ≤ w.heap.size) (hmx : l.length ≤ 1000000) :
    Calls Tryz.prog 19 #[.agg #[.int .i64 3, .int .i64 d, .int .i64 a, .int .i64 b, .slice o len cap]] w (NamedPost ⟨3, d, a, b, l⟩ w) := by
  have HG : Unt.gives ⟨3, d, a, b, l⟩ = d := by simp [Unt.gives]
  have HN : Unt.named ⟨3, d, a, b, l⟩ = [] := by simp [Unt.named]
  unfold NamedPost
  rw [HG, HN]
  have HV := Lib.hid hv
  have HA := Lib.hid ha
  have HB := Lib.hid hb
  obtain ⟨hlen, hcap, hmax⟩ := hv.lens
  have HL := Lib.hid hlen
  have hmx' : len ≤ 1000000 := by omega
  clear HG HN hv ha hb hlen
  go_enter Tryz.func19, Tryz.ntmps19
  go_wp2_with fail
  go_ret2
  exact ⟨_, rfl, ⟨none, 0, 0, rfl, rfl, by omega, by omega, rfl, rfl⟩, Below.one _ _⟩

set_option maxHeartbeats 1000000 in
set_option maxRecDepth 100000 in
theorem named_4 (d a b : Int) (l : List Int) (o : Option Addr) (len cap : Nat) (B : Nat) (w : World) (ha : I64 a) (hb : I64 b) (hv : SlC w B 1 IntR l (.slice o len cap)) (_hB : B ≤ w.heap.size) (hmx : l.length ≤ 1000000) :
    Calls Tryz.prog 19 #[.agg #[.int .i64 4, .int .i64 d, .int .i64 a, .int .i64 b, .slice o len cap]] w (NamedPost ⟨4, d, a, b, l⟩ w) := by
  have HG : Unt.gives ⟨4, d, a, b, l⟩ = d := by simp [Unt.gives]
  have HN : Unt.named ⟨4, d, a, b, l⟩ = [] := by simp [Unt.named]
  unfold NamedPost
  rw [HG, HN]
  have HV := Lib.hid hv
  have HA := Lib.hid ha
  have HB := Lib.hid hb
  obtain ⟨hlen, hcap, hmax⟩ := hv.lens
  have HL := Lib.hid hlen
  have hmx' : len ≤ 1000000 := by omega
  clear HG HN hv ha hb hlen
  go_enter Tryz.func19, Tryz.ntmps19
  go_wp2_with fail
  go_ret2
  exact ⟨_, rfl, ⟨none, 0, 0, rfl, rfl, by omega, by omega, rfl, rfl⟩, Below.one _ _⟩

set_option maxHeartbeats 1000000 in
set_option maxRecDepth 100000 in
theorem named_5 (d a b : Int) (l : List Int) (o : Option Addr) (len cap : Nat) (B : Nat) (w : World) (ha : I64 a) (hb : I64 b) (hv : SlC w B 1 IntR l (.slice o len cap)) (_hB : B ≤ w.heap.size) (hmx : l.length ≤ 1000000) :
    Calls Tryz.prog 19 #[.agg #[.int .i64 5, .int .i64 d, .int .i64 a, .int .i64 b, .slice o len cap]] w (NamedPost ⟨5, d, a, b, l⟩ w) := by
  have HG : Unt.gives ⟨5, d, a, b, l⟩ = d := by simp [Unt.gives]
  have HN : Unt.named ⟨5, d, a, b, l⟩ = [] := by simp [Unt.named]
  unfold NamedPost
  rw [HG, HN]
  have HV := Lib.hid hv
  have HA := Lib.hid ha
  have HB := Lib.hid hb
  obtain ⟨hlen, hcap, hmax⟩ := hv.lens
  have HL := Lib.hid hlen
  have hmx' : len ≤ 1000000 := by omega
  clear HG HN hv ha hb hlen
  go_enter Tryz.func19, Tryz.ntmps19
  go_wp2_with fail
  go_ret2
  exact ⟨_, rfl, ⟨none, 0, 0, rfl, rfl, by omega, by omega, rfl, rfl⟩, Below.one _ _⟩

set_option maxHeartbeats 1000000 in
set_option maxRecDepth 100000 in
theorem named_6 (d a b : Int) (l : List Int) (o : Option Addr) (len cap : Nat) (B : Nat) (w : World) (ha : I64 a) (hb : I64 b) (hv : SlC w B 1 IntR l (.slice o len cap)) (_hB : B ≤ w.heap.size) (hmx : l.length ≤ 1000000) :
    Calls Tryz.prog 19 #[.agg #[.int .i64 6, .int .i64 d, .int .i64 a, .int .i64 b, .slice o len cap]] w (NamedPost ⟨6, d, a, b, l⟩ w) := by
  have HG : Unt.gives ⟨6, d, a, b, l⟩ = d := by simp [Unt.gives]
  have HN : Unt.named ⟨6, d, a, b, l⟩ = [] := by simp [Unt.named]
  unfold NamedPost
  rw [HG, HN]
  have HV := Lib.hid hv
  have HA := Lib.hid ha
  have HB := Lib.hid hb
  obtain ⟨hlen, hcap, hmax⟩ := hv.lens
  have HL := Lib.hid hlen
  have hmx' : len ≤ 1000000 := by omega
  clear HG HN hv ha hb hlen
  go_enter Tryz.func19, Tryz.ntmps19
  go_wp2_with fail
  go_ret2
  exact ⟨_, rfl, ⟨none, 0, 0, rfl, rfl, by omega, by omega, rfl, rfl⟩, Below.one _ _⟩

set_option maxHeartbeats 1000000 in
set_option maxRecDepth 100000 in
theorem named_7 (d a b : Int) (l : List Int) (o : Option Addr) (len cap : Nat) (B : Nat) (w : World) (ha : I64 a) (hb : I64 b) (hv : SlC w B 1 IntR l (.slice o len cap)) (hB : B ≤ w.heap.size) (hmx : l.length ≤ 1000000) :
    Calls Tryz.prog 19 #[.agg #[.int .i64 7, .int .i64 d, .int .i64 a, .int .i64 b, .slice o len cap]] w (NamedPost ⟨7, d, a, b, l⟩ w) := by
  have HG : Unt.gives ⟨7, d, a, b, l⟩ = d := by simp [Unt.gives]
  have HN : Unt.named ⟨7, d, a, b, l⟩ = l := by simp [Unt.named]
  unfold NamedPost
  rw [HG, HN]
  have HV := Lib.hid hv
  have HA := Lib.hid ha
  have HB := Lib.hid hb
  obtain ⟨hlen, hcap, hmax⟩ := hv.lens
  have HL := Lib.hid hlen
  have hmx' : len ≤ 1000000 := by omega
  clear HG HN hv ha hb hlen
  go_enter Tryz.func19, Tryz.ntmps19
  go_wp2_with fail
  go_ret2
  exact ⟨_, rfl, (HV.out.kept ((Below.one w _).mono hB) fun _ _ _ h => h).wider (by simp; omega), Below.one _ _⟩

set_option maxHeartbeats 1000000 in
set_option maxRecDepth 100000 in
theorem named_8 (d a b : Int) (l : List Int) (o : Option Addr) (len cap : Nat) (B : Nat) (w : World) (ha : I64 a) (hb : I64 b) (hv : SlC w B 1 IntR l (.slice o len cap)) (hB : B ≤ w.heap.size) (hmx : l.length ≤ 1000000) :
    Calls Tryz.prog 19 #[.agg #[.int .i64 8, .int .i64 d, .int .i64 a, .int .i64 b, .slice o len cap]] w (NamedPost ⟨8, d, a, b, l⟩ w) := by
  have HG : Unt.gives ⟨8, d, a, b, l⟩ = -1 := by simp [Unt.gives]
  have HN : Unt.named ⟨8, d, a, b, l⟩ = a :: l := by simp [Unt.named]
  unfold NamedPost
  rw [HG, HN]
  have HV := Lib.hid hv
  have HA := Lib.hid ha
  have HB := Lib.hid hb
  obtain ⟨hlen, hcap, hmax⟩ := hv.lens
  have HL := Lib.hid hlen
  have hmx' : len ≤ 1000000 := by omega
  clear HG HN hv ha hb hlen
  go_enter Tryz.func19, Tryz.ntmps19
  have HO := Lib.hid (ownsRow_new (W := (w.alloc (.cells #[.int .i64 8, .int .i64 d, .int .i64 a, .int .i64 b, .slice o len cap] 34))) (b := w.heap.size + 1) (base := w.heap.size) (by simp) (by omega) 3 1 1 [.int .i64 a] rfl (by unfold maxLen; omega))
  have HS := Lib.hid (show SlC ((w.alloc (.cells #[.int .i64 8, .int .i64 d, .int .i64 a, .int .i64 b, .slice o len cap] 34)).alloc (.cells [.int .i64 a].toArray 3)) B 1 IntR l (.slice o len cap) from HV.out.kept (((Below.one w _).trans ((Below.one _ _).mono (by simp))).mono hB) fun _ _ _ h => h)
  go_wp2_with (at_builtin; refine wpList_append_ints rfl (.tmp 36) (.tmp 38) rfl w.heap.size B (.slice (some ⟨w.heap.size + 1, 0, none⟩) 1 1) [a] l rfl HO.out o len cap rfl HS.out (by have := HL.out; simp; omega) (by simp; omega) ?_)
  intro v' w2 hown hgrow
  have HR := Lib.hid hown
  have HBE := Lib.hid (show Below w.heap.size w w2 from ((Below.one w _).trans ((Below.one _ _).mono (by simp))).grown hgrow (by simp; omega) (fun g hg => by simp [Value.ownBlock] at hg; omega))
  have bx : BoxL w2 w.heap.size 34 [.int .i64 8, .int .i64 d, .int .i64 a, .int .i64 b, .slice o len cap] := (hgrow.block _ (by simp; omega) (by simp [Value.ownBlock])).trans ((BoxL.new rfl _ _).alloc _)
  have x0 := bx.cell 0 rfl
  have x1 := bx.cell 1 rfl
  clear hown hgrow bx
  go_wp2_with fail
  go_ret2
  exact ⟨_, rfl, rowInts (l := [a] ++ l) HR.out (by intro x hx; rcases List.mem_cons.1 hx with rfl | h; exact HA.out; exact HV.out.i64 x h), HBE.out⟩

set_option maxHeartbeats 1000000 in
set_option maxRecDepth 100000 in
theorem named_9 (d a b : Int) (l : List Int) (o : Option Addr) (len cap : Nat) (B : Nat) (w : World) (ha : I64 a) (hb : I64 b) (hv : SlC w B 1 IntR l (.slice o len cap)) (hB : B ≤ w.heap.size) (hmx : l.length ≤ 1000000) :
    Calls Tryz.prog 19 #[.agg #[.int .i64 9, .int .i64 d, .int .i64 a, .int .i64 b, .slice o len cap]] w (NamedPost ⟨9, d, a, b, l⟩ w) := by
  have HG : Unt.gives ⟨9, d, a, b, l⟩ = d := by simp [Unt.gives]
  have HN : Unt.named ⟨9, d, a, b, l⟩ = l := by simp [Unt.named]
  unfold NamedPost
  rw [HG, HN]
  have HV := Lib.hid hv
  have HA := Lib.hid ha
  have HB := Lib.hid hb
  obtain ⟨hlen, hcap, hmax⟩ := hv.lens
  have HL := Lib.hid hlen
  have hmx' : len ≤ 1000000 := by omega
  clear HG HN hv ha hb hlen
  go_enter Tryz.func19, Tryz.ntmps19
  go_wp2_with fail
  go_ret2
  exact ⟨_, rfl, (HV.out.kept ((Below.one w _).mono hB) fun _ _ _ h => h).wider (by simp; omega), Below.one _ _⟩

set_option maxHeartbeats 1000000 in
set_option maxRecDepth 100000 in
theorem named_10 (d a b : Int) (l : List Int) (o : Option Addr) (len cap : Nat) (B : Nat) (w : World) (ha : I64 a) (hb : I64 b) (hv : SlC w B 1 IntR l (.slice o len cap)) (_hB : B ≤ w.heap.size) (hmx : l.length ≤ 1000000) :
    Calls Tryz.prog 19 #[.agg #[.int .i64 10, .int .i64 d, .int .i64 a, .int .i64 b, .slice o len cap]] w (NamedPost ⟨10, d, a, b, l⟩ w) := by
  have HG : Unt.gives ⟨10, d, a, b, l⟩ = d := by simp [Unt.gives]
  have HN : Unt.named ⟨10, d, a, b, l⟩ = [a] := by simp [Unt.named]
  unfold NamedPost
  rw [HG, HN]
  have HV := Lib.hid hv
  have HA := Lib.hid ha
  have HB := Lib.hid hb
  obtain ⟨hlen, hcap, hmax⟩ := hv.lens
  have HL := Lib.hid hlen
  have hmx' : len ≤ 1000000 := by omega
  clear HG HN hv ha hb hlen
  go_enter Tryz.func19, Tryz.ntmps19
  go_wp2_with fail
  go_ret2
  exact ⟨_, rfl, intsNew (B := ((w.alloc (.cells #[.int .i64 10, .int .i64 d, .int .i64 a, .int .i64 b, .slice o len cap] 34)).alloc (.cells #[.int .i64 a] 3)).heap.size) (by simp) (by simp) 3 [a] (by simp [HA.out]) 1 rfl (by omega), (Below.one _ _).trans ((Below.one _ _).mono (by simp))⟩

set_option maxHeartbeats 1000000 in
set_option maxRecDepth 100000 in
theorem named_11 (d a b : Int) (l : List Int) (o : Option Addr) (len cap : Nat) (B : Nat) (w : World) (ha : I64 a) (hb : I64 b) (hv : SlC w B 1 IntR l (.slice o len cap)) (_hB : B ≤ w.heap.size) (hmx : l.length ≤ 1000000) :
    Calls Tryz.prog 19 #[.agg #[.int .i64 11, .int .i64 d, .int .i64 a, .int .i64 b, .slice o len cap]] w (NamedPost ⟨11, d, a, b, l⟩ w) := by
  have HG : Unt.gives ⟨11, d, a, b, l⟩ = d := by simp [Unt.gives]
  have HN : Unt.named ⟨11, d, a, b, l⟩ = [a] := by simp [Unt.named]
  unfold NamedPost
  rw [HG, HN]
  have HV := Lib.hid hv
  have HA := Lib.hid ha
  have HB := Lib.hid hb
  obtain ⟨hlen, hcap, hmax⟩ := hv.lens
  have HL := Lib.hid hlen
  have hmx' : len ≤ 1000000 := by omega
  clear HG HN hv ha hb hlen
  go_enter Tryz.func19, Tryz.ntmps19
  go_wp2_with fail
  go_ret2
  exact ⟨_, rfl, intsNew (B := ((w.alloc (.cells #[.int .i64 11, .int .i64 d, .int .i64 a, .int .i64 b, .slice o len cap] 34)).alloc (.cells #[.int .i64 a] 3)).heap.size) (by simp) (by simp) 3 [a] (by simp [HA.out]) 1 rfl (by omega), (Below.one _ _).trans ((Below.one _ _).mono (by simp))⟩

set_option maxHeartbeats 1000000 in
set_option maxRecDepth 100000 in
theorem named_12 (d a b : Int) (l : List Int) (o : Option Addr) (len cap : Nat) (B : Nat) (w : World) (ha : I64 a) (hb : I64 b) (hv : SlC w B 1 IntR l (.slice o len cap)) (_hB : B ≤ w.heap.size) (hmx : l.length ≤ 1000000) :
    Calls Tryz.prog 19 #[.agg #[.int .i64 12, .int .i64 d, .int .i64 a, .int .i64 b, .slice o len cap]] w (NamedPost ⟨12, d, a, b, l⟩ w) := by
  have HG : Unt.gives ⟨12, d, a, b, l⟩ = -1 := by simp [Unt.gives]
  have HN : Unt.named ⟨12, d, a, b, l⟩ = [a, b] := by simp [Unt.named]
  unfold NamedPost
  rw [HG, HN]
  have HV := Lib.hid hv
  have HA := Lib.hid ha
  have HB := Lib.hid hb
  obtain ⟨hlen, hcap, hmax⟩ := hv.lens
  have HL := Lib.hid hlen
  have hmx' : len ≤ 1000000 := by omega
  clear HG HN hv ha hb hlen
  go_enter Tryz.func19, Tryz.ntmps19
  go_wp2_with fail
  go_ret2
  exact ⟨_, rfl, intsNew (B := ((w.alloc (.cells #[.int .i64 12, .int .i64 d, .int .i64 a, .int .i64 b, .slice o len cap] 34)).alloc (.cells #[.int .i64 a, .int .i64 b] 3)).heap.size) (by simp) (by simp) 3 [a, b] (by simp [HA.out, HB.out]) 2 rfl (by omega), (Below.one _ _).trans ((Below.one _ _).mono (by simp))⟩

set_option maxHeartbeats 1000000 in
set_option maxRecDepth 100000 in
theorem named_13 (d a b : Int) (l : List Int) (o : Option Addr) (len cap : Nat) (B : Nat) (w : World) (ha : I64 a) (hb : I64 b) (hv : SlC w B 1 IntR l (.slice o len cap)) (_hB : B ≤ w.heap.size) (hmx : l.length ≤ 1000000) :
    Calls Tryz.prog 19 #[.agg #[.int .i64 13, .int .i64 d, .int .i64 a, .int .i64 b, .slice o len cap]] w (NamedPost ⟨13, d, a, b, l⟩ w) := by
  have HG : Unt.gives ⟨13, d, a, b, l⟩ = -1 := by simp [Unt.gives]
  have HN : Unt.named ⟨13, d, a, b, l⟩ = [a, b] := by simp [Unt.named]
  unfold NamedPost
  rw [HG, HN]
  have HV := Lib.hid hv
  have HA := Lib.hid ha
  have HB := Lib.hid hb
  obtain ⟨hlen, hcap, hmax⟩ := hv.lens
  have HL := Lib.hid hlen
  have hmx' : len ≤ 1000000 := by omega
  clear HG HN hv ha hb hlen
  go_enter Tryz.func19, Tryz.ntmps19
  go_wp2_with fail
  go_ret2
  exact ⟨_, rfl, intsNew (B := ((w.alloc (.cells #[.int .i64 13, .int .i64 d, .int .i64 a, .int .i64 b, .slice o len cap] 34)).alloc (.cells #[.int .i64 a, .int .i64 b] 3)).heap.size) (by simp) (by simp) 3 [a, b] (by simp [HA.out, HB.out]) 2 rfl (by omega), (Below.one _ _).trans ((Below.one _ _).mono (by simp))⟩

set_option maxHeartbeats 1000000 in
set_option maxRecDepth 100000 in
theorem named_14 (d a b : Int) (l : List Int) (o : Option Addr) (len cap : Nat) (B : Nat) (w : World) (ha : I64 a) (hb : I64 b) (hv : SlC w B 1 IntR l (.slice o len cap)) (_hB : B ≤ w.heap.size) (hmx : l.length ≤ 1000000) :
    Calls Tryz.prog 19 #[.agg #[.int .i64 14, .int .i64 d, .int .i64 a, .int .i64 b, .slice o len cap]] w (NamedPost ⟨14, d, a, b, l⟩ w) := by
  have HG : Unt.gives ⟨14, d, a, b, l⟩ = d := by simp [Unt.gives]
  have HN : Unt.named ⟨14, d, a, b, l⟩ = [a] := by simp [Unt.named]
  unfold NamedPost
  rw [HG, HN]
  have HV := Lib.hid hv
  have HA := Lib.hid ha
  have HB := Lib.hid hb
  obtain ⟨hlen, hcap, hmax⟩ := hv.lens
  have HL := Lib.hid hlen
  have hmx' : len ≤ 1000000 := by omega
  clear HG HN hv ha hb hlen
  go_enter Tryz.func19, Tryz.ntmps19
  go_wp2_with fail
  go_ret2
  exact ⟨_, rfl, intsNew (B := ((w.alloc (.cells #[.int .i64 14, .int .i64 d, .int .i64 a, .int .i64 b, .slice o len cap] 34)).alloc (.cells #[.int .i64 a] 3)).heap.size) (by simp) (by simp) 3 [a] (by simp [HA.out]) 1 rfl (by omega), (Below.one _ _).trans ((Below.one _ _).mono (by simp))⟩

set_option maxHeartbeats 1000000 in
set_option maxRecDepth 100000 in
theorem named_15 (d a b : Int) (l : List Int) (o : Option Addr) (len cap : Nat) (B : Nat) (w : World) (ha : I64 a) (hb : I64 b) (hv : SlC w B 1 IntR l (.slice o len cap)) (_hB : B ≤ w.heap.size) (hmx : l.length ≤ 1000000) :
    Calls Tryz.prog 19 #[.agg #[.int .i64 15, .int .i64 d, .int .i64 a, .int .i64 b, .slice o len cap]] w (NamedPost ⟨15, d, a, b, l⟩ w) := by
  have HG : Unt.gives ⟨15, d, a, b, l⟩ = -1 := by simp [Unt.gives]
  have HN : Unt.named ⟨15, d, a, b, l⟩ = [] := by simp [Unt.named]
  unfold NamedPost
  rw [HG, HN]
  have HV := Lib.hid hv
  have HA := Lib.hid ha
  have HB := Lib.hid hb
  obtain ⟨hlen, hcap, hmax⟩ := hv.lens
  have HL := Lib.hid hlen
  have hmx' : len ≤ 1000000 := by omega
  clear HG HN hv ha hb hlen
  go_enter Tryz.func19, Tryz.ntmps19
  go_wp2_with fail
  go_ret2
  exact ⟨_, rfl, ⟨none, 0, 0, rfl, rfl, by omega, by omega, rfl, rfl⟩, Below.one _ _⟩

set_option maxHeartbeats 1000000 in
set_option maxRecDepth 100000 in
theorem named_16 (d a b : Int) (l : List Int) (o : Option Addr) (len cap : Nat) (B : Nat) (w : World) (ha : I64 a) (hb : I64 b) (hv : SlC w B 1 IntR l (.slice o len cap)) (_hB : B ≤ w.heap.size) (hmx : l.length ≤ 1000000) :
    Calls Tryz.prog 19 #[.agg #[.int .i64 16, .int .i64 d, .int .i64 a, .int .i64 b, .slice o len cap]] w (NamedPost ⟨16, d, a, b, l⟩ w) := by
  have HG : Unt.gives ⟨16, d, a, b, l⟩ = -1 := by simp [Unt.gives]
  have HN : Unt.named ⟨16, d, a, b, l⟩ = [a] := by simp [Unt.named]
  unfold NamedPost
  rw [HG, HN]
  have HV := Lib.hid hv
  have HA := Lib.hid ha
  have HB := Lib.hid hb
  obtain ⟨hlen, hcap, hmax⟩ := hv.lens
  have HL := Lib.hid hlen
  have hmx' : len ≤ 1000000 := by omega
  clear HG HN hv ha hb hlen
  go_enter Tryz.func19, Tryz.ntmps19
  go_wp2_with fail
  go_ret2
  exact ⟨_, rfl, intsNew (B := ((w.alloc (.cells #[.int .i64 16, .int .i64 d, .int .i64 a, .int .i64 b, .slice o len cap] 34)).alloc (.cells #[.int .i64 a] 3)).heap.size) (by simp) (by simp) 3 [a] (by simp [HA.out]) 1 rfl (by omega), (Below.one _ _).trans ((Below.one _ _).mono (by simp))⟩

set_option maxHeartbeats 1000000 in
set_option maxRecDepth 100000 in
theorem named_17 (d a b : Int) (l : List Int) (o : Option Addr) (len cap : Nat) (B : Nat) (w : World) (ha : I64 a) (hb : I64 b) (hv : SlC w B 1 IntR l (.slice o len cap)) (hB : B ≤ w.heap.size) (hmx : l.length ≤ 1000000) :
    Calls Tryz.prog 19 #[.agg #[.int .i64 17, .int .i64 d, .int .i64 a, .int .i64 b, .slice o len cap]] w (NamedPost ⟨17, d, a, b, l⟩ w) := by
  have HG : Unt.gives ⟨17, d, a, b, l⟩ = d := by simp [Unt.gives]
  have HN : Unt.named ⟨17, d, a, b, l⟩ = a :: l := by simp [Unt.named]
  unfold NamedPost
  rw [HG, HN]
  have HV := Lib.hid hv
  have HA := Lib.hid ha
  have HB := Lib.hid hb
  obtain ⟨hlen, hcap, hmax⟩ := hv.lens
  have HL := Lib.hid hlen
  have hmx' : len ≤ 1000000 := by omega
  clear HG HN hv ha hb hlen
  go_enter Tryz.func19, Tryz.ntmps19
  have HO := Lib.hid (ownsRow_new (W := (w.alloc (.cells #[.int .i64 17, .int .i64 d, .int .i64 a, .int .i64 b, .slice o len cap] 34))) (b := w.heap.size + 1) (base := w.heap.size) (by simp) (by omega) 3 1 1 [.int .i64 a] rfl (by unfold maxLen; omega))
  have HS := Lib.hid (show SlC ((w.alloc (.cells #[.int .i64 17, .int .i64 d, .int .i64 a, .int .i64 b, .slice o len cap] 34)).alloc (.cells [.int .i64 a].toArray 3)) B 1 IntR l (.slice o len cap) from HV.out.kept (((Below.one w _).trans ((Below.one _ _).mono (by simp))).mono hB) fun _ _ _ h => h)
  go_wp2_with (at_builtin; refine wpList_append_ints rfl (.tmp 36) (.tmp 38) rfl w.heap.size B (.slice (some ⟨w.heap.size + 1, 0, none⟩) 1 1) [a] l rfl HO.out o len cap rfl HS.out (by have := HL.out; simp; omega) (by simp; omega) ?_)
  intro v' w2 hown hgrow
  have HR := Lib.hid hown
  have HBE := Lib.hid (show Below w.heap.size w w2 from ((Below.one w _).trans ((Below.one _ _).mono (by simp))).grown hgrow (by simp; omega) (fun g hg => by simp [Value.ownBlock] at hg; omega))
  have bx : BoxL w2 w.heap.size 34 [.int .i64 17, .int .i64 d, .int .i64 a, .int .i64 b, .slice o len cap] := (hgrow.block _ (by simp; omega) (by simp [Value.ownBlock])).trans ((BoxL.new rfl _ _).alloc _)
  have x0 := bx.cell 0 rfl
  have x1 := bx.cell 1 rfl
  clear hown hgrow bx
  go_wp2_with fail
  go_ret2
  exact ⟨_, rfl, rowInts (l := [a] ++ l) HR.out (by intro x hx; rcases List.mem_cons.1 hx with rfl | h; exact HA.out; exact HV.out.i64 x h), HBE.out⟩

set_option maxHeartbeats 1000000 in
set_option maxRecDepth 100000 in
theorem named_18 (d a b : Int) (l : List Int) (o : Option Addr) (len cap : Nat) (B : Nat) (w : World) (ha : I64 a) (hb : I64 b) (hv : SlC w B 1 IntR l (.slice o len cap)) (hB : B ≤ w.heap.size) (hmx : l.length ≤ 1000000) :
    Calls Tryz.prog 19 #[.agg #[.int .i64 18, .int .i64 d, .int .i64 a, .int .i64 b, .slice o len cap]] w (NamedPost ⟨18, d, a, b, l⟩ w) := by
  have HG : Unt.gives ⟨18, d, a, b, l⟩ = d := by simp [Unt.gives]
  have HN : Unt.named ⟨18, d, a, b, l⟩ = b :: l := by simp [Unt.named]
  unfold NamedPost
  rw [HG, HN]
  have HV := Lib.hid hv
  have HA := Lib.hid ha
  have HB := Lib.hid hb
  obtain ⟨hlen, hcap, hmax⟩ := hv.lens
  have HL := Lib.hid hlen
  have hmx' : len ≤ 1000000 := by omega
  clear HG HN hv ha hb hlen
  go_enter Tryz.func19, Tryz.ntmps19
  have HO := Lib.hid (ownsRow_new (W := (w.alloc (.cells #[.int .i64 18, .int .i64 d, .int .i64 a, .int .i64 b, .slice o len cap] 34))) (b := w.heap.size + 1) (base := w.heap.size) (by simp) (by omega) 3 1 1 [.int .i64 b] rfl (by unfold maxLen; omega))
  have HS := Lib.hid (show SlC ((w.alloc (.cells #[.int .i64 18, .int .i64 d, .int .i64 a, .int .i64 b, .slice o len cap] 34)).alloc (.cells [.int .i64 b].toArray 3)) B 1 IntR l (.slice o len cap) from HV.out.kept (((Below.one w _).trans ((Below.one _ _).mono (by simp))).mono hB) fun _ _ _ h => h)
  go_wp2_with (at_builtin; refine wpList_append_ints rfl (.tmp 45) (.tmp 47) rfl w.heap.size B (.slice (some ⟨w.heap.size + 1, 0, none⟩) 1 1) [b] l rfl HO.out o len cap rfl HS.out (by have := HL.out; simp; omega) (by simp; omega) ?_)
  intro v' w2 hown hgrow
  have HR := Lib.hid hown
  have HBE := Lib.hid (show Below w.heap.size w w2 from ((Below.one w _).trans ((Below.one _ _).mono (by simp))).grown hgrow (by simp; omega) (fun g hg => by simp [Value.ownBlock] at hg; omega))
  have bx : BoxL w2 w.heap.size 34 [.int .i64 18, .int .i64 d, .int .i64 a, .int .i64 b, .slice o len cap] := (hgrow.block _ (by simp; omega) (by simp [Value.ownBlock])).trans ((BoxL.new rfl _ _).alloc _)
  have x0 := bx.cell 0 rfl
  have x1 := bx.cell 1 rfl
  clear hown hgrow bx
  go_wp2_with fail
  go_ret2
  exact ⟨_, rfl, rowInts (l := [b] ++ l) HR.out (by intro x hx; rcases List.mem_cons.1 hx with rfl | h; exact HB.out; exact HV.out.i64 x h), HBE.out⟩

set_option maxHeartbeats 1000000 in
set_option maxRecDepth 100000 in
theorem named_19 (d a b : Int) (l : List Int) (o : Option Addr) (len cap : Nat) (B : Nat) (w : World) (ha : I64 a) (hb : I64 b) (hv : SlC w B 1 IntR l (.slice o len cap)) (hB : B ≤ w.heap.size) (hmx : l.length ≤ 1000000) :
    Calls Tryz.prog 19 #[.agg #[.int .i64 19, .int .i64 d, .int .i64 a, .int .i64 b, .slice o len cap]] w (NamedPost ⟨19, d, a, b, l⟩ w) := by
  have HG : Unt.gives ⟨19, d, a, b, l⟩ = -1 := by simp [Unt.gives]
  have HN : Unt.named ⟨19, d, a, b, l⟩ = a :: l := by simp [Unt.named]
  unfold NamedPost
  rw [HG, HN]
  have HV := Lib.hid hv
  have HA := Lib.hid ha
  have HB := Lib.hid hb
  obtain ⟨hlen, hcap, hmax⟩ := hv.lens
  have HL := Lib.hid hlen
  have hmx' : len ≤ 1000000 := by omega
  clear HG HN hv ha hb hlen
  go_enter Tryz.func19, Tryz.ntmps19
  have HO := Lib.hid (ownsRow_new (W := (w.alloc (.cells #[.int .i64 19, .int .i64 d, .int .i64 a, .int .i64 b, .slice o len cap] 34))) (b := w.heap.size + 1) (base := w.heap.size) (by simp) (by omega) 3 1 1 [.int .i64 a] rfl (by unfold maxLen; omega))
  have HS := Lib.hid (show SlC ((w.alloc (.cells #[.int .i64 19, .int .i64 d, .int .i64 a, .int .i64 b, .slice o len cap] 34)).alloc (.cells [.int .i64 a].toArray 3)) B 1 IntR l (.slice o len cap) from HV.out.kept (((Below.one w _).trans ((Below.one _ _).mono (by simp))).mono hB) fun _ _ _ h => h)
  go_wp2_with (at_builtin; refine wpList_append_ints rfl (.tmp 36) (.tmp 38) rfl w.heap.size B (.slice (some ⟨w.heap.size + 1, 0, none⟩) 1 1) [a] l rfl HO.out o len cap rfl HS.out (by have := HL.out; simp; omega) (by simp; omega) ?_)
  intro v' w2 hown hgrow
  have HR := Lib.hid hown
  have HBE := Lib.hid (show Below w.heap.size w w2 from ((Below.one w _).trans ((Below.one _ _).mono (by simp))).grown hgrow (by simp; omega) (fun g hg => by simp [Value.ownBlock] at hg; omega))
  have bx : BoxL w2 w.heap.size 34 [.int .i64 19, .int .i64 d, .int .i64 a, .int .i64 b, .slice o len cap] := (hgrow.block _ (by simp; omega) (by simp [Value.ownBlock])).trans ((BoxL.new rfl _ _).alloc _)
  have x0 := bx.cell 0 rfl
  have x1 := bx.cell 1 rfl
  clear hown hgrow bx
  go_wp2_with fail
  go_ret2
  exact ⟨_, rfl, rowInts (l := [a] ++ l) HR.out (by intro x hx; rcases List.mem_cons.1 hx with rfl | h; exact HA.out; exact HV.out.i64 x h), HBE.out⟩

set_option maxHeartbeats 1000000 in
set_option maxRecDepth 100000 in
theorem named_20 (d a b : Int) (l : List Int) (o : Option Addr) (len cap : Nat) (B : Nat) (w : World) (ha : I64 a) (hb : I64 b) (hv : SlC w B 1 IntR l (.slice o len cap)) (hB : B ≤ w.heap.size) (hmx : l.length ≤ 1000000) :
    Calls Tryz.prog 19 #[.agg #[.int .i64 20, .int .i64 d, .int .i64 a, .int .i64 b, .slice o len cap]] w (NamedPost ⟨20, d, a, b, l⟩ w) := by
  have HG : Unt.gives ⟨20, d, a, b, l⟩ = -1 := by simp [Unt.gives]
  have HN : Unt.named ⟨20, d, a, b, l⟩ = b :: l := by simp [Unt.named]
  unfold NamedPost
  rw [HG, HN]
  have HV := Lib.hid hv
  have HA := Lib.hid ha
  have HB := Lib.hid hb
  obtain ⟨hlen, hcap, hmax⟩ := hv.lens
  have HL := Lib.hid hlen
  have hmx' : len ≤ 1000000 := by omega
  clear HG HN hv ha hb hlen
  go_enter Tryz.func19, Tryz.ntmps19
  have HO := Lib.hid (ownsRow_new (W := (w.alloc (.cells #[.int .i64 20, .int .i64 d, .int .i64 a, .int .i64 b, .slice o len cap] 34))) (b := w.heap.size + 1) (base := w.heap.size) (by simp) (by omega) 3 1 1 [.int .i64 b] rfl (by unfold maxLen; omega))
  have HS := Lib.hid (show SlC ((w.alloc (.cells #[.int .i64 20, .int .i64 d, .int .i64 a, .int .i64 b, .slice o len cap] 34)).alloc (.cells [.int .i64 b].toArray 3)) B 1 IntR l (.slice o len cap) from HV.out.kept (((Below.one w _).trans ((Below.one _ _).mono (by simp))).mono hB) fun _ _ _ h => h)
  go_wp2_with (at_builtin; refine wpList_append_ints rfl (.tmp 45) (.tmp 47) rfl w.heap.size B (.slice (some ⟨w.heap.size + 1, 0, none⟩) 1 1) [b] l rfl HO.out o len cap rfl HS.out (by have := HL.out; simp; omega) (by simp; omega) ?_)
  intro v' w2 hown hgrow
  have HR := Lib.hid hown
  have HBE := Lib.hid (show Below w.heap.size w w2 from ((Below.one w _).trans ((Below.one _ _).mono (by simp))).grown hgrow (by simp; omega) (fun g hg => by simp [Value.ownBlock] at hg; omega))
  have bx : BoxL w2 w.heap.size 34 [.int .i64 20, .int .i64 d, .int .i64 a, .int .i64 b, .slice o len cap] := (hgrow.block _ (by simp; omega) (by simp [Value.ownBlock])).trans ((BoxL.new rfl _ _).alloc _)
  have x0 := bx.cell 0 rfl
  have x1 := bx.cell 1 rfl
  clear hown hgrow bx
  go_wp2_with fail
  go_ret2
  exact ⟨_, rfl, rowInts (l := [b] ++ l) HR.out (by intro x hx; rcases List.mem_cons.1 hx with rfl | h; exact HB.out; exact HV.out.i64 x h), HBE.out⟩

set_option maxHeartbeats 1000000 in
set_option maxRecDepth 100000 in
theorem named_21 (d a b : Int) (l : List Int) (o : Option Addr) (len cap : Nat) (B : Nat) (w : World) (ha : I64 a) (hb : I64 b) (hv : SlC w B 1 IntR l (.slice o len cap)) (hB : B ≤ w.heap.size) (hmx : l.length ≤ 1000000) :
    Calls Tryz.prog 19 #[.agg #[.int .i64 21, .int .i64 d, .int .i64 a, .int .i64 b, .slice o len cap]] w (NamedPost ⟨21, d, a, b, l⟩ w) := by
  have HG : Unt.gives ⟨21, d, a, b, l⟩ = -1 := by simp [Unt.gives]
  have HN : Unt.named ⟨21, d, a, b, l⟩ = l := by simp [Unt.named]
  unfold NamedPost
  rw [HG, HN]
  have HV := Lib.hid hv
  have HA := Lib.hid ha
  have HB := Lib.hid hb
  obtain ⟨hlen, hcap, hmax⟩ := hv.lens
  have HL := Lib.hid hlen
  have hmx' : len ≤ 1000000 := by omega
  clear HG HN hv ha hb hlen
  go_enter Tryz.func19, Tryz.ntmps19
  go_wp2_with fail
  go_ret2
  exact ⟨_, rfl, (HV.out.kept ((Below.one w _).mono hB) fun _ _ _ h => h).wider (by simp; omega), Below.one _ _⟩

set_option maxHeartbeats 1000000 in
set_option maxRecDepth 100000 in
theorem named_22 (d a b : Int) (l : List Int) (o : Option Addr) (len cap : Nat) (B : Nat) (w : World) (ha : I64 a) (hb : I64 b) (hv : SlC w B 1 IntR l (.slice o len cap)) (_hB : B ≤ w.heap.size) (hmx : l.length ≤ 1000000) :
    Calls Tryz.prog 19 #[.agg #[.int .i64 22, .int .i64 d, .int .i64 a, .int .i64 b, .slice o len cap]] w (NamedPost ⟨22, d, a, b, l⟩ w) := by
  have HG : Unt.gives ⟨22, d, a, b, l⟩ = -1 := by simp [Unt.gives]
  have HN : Unt.named ⟨22, d, a, b, l⟩ = [a] := by simp [Unt.named]
  unfold NamedPost
  rw [HG, HN]
  have HV := Lib.hid hv
  have HA := Lib.hid ha
  have HB := Lib.hid hb
  obtain ⟨hlen, hcap, hmax⟩ := hv.lens
  have HL := Lib.hid hlen
  have hmx' : len ≤ 1000000 := by omega
  clear HG HN hv ha hb hlen
  go_enter Tryz.func19, Tryz.ntmps19
  go_wp2_with fail
  go_ret2
  exact ⟨_, rfl, intsNew (B := ((w.alloc (.cells #[.int .i64 22, .int .i64 d, .int .i64 a, .int .i64 b, .slice o len cap] 34)).alloc (.cells #[.int .i64 a] 3)).heap.size) (by simp) (by simp) 3 [a] (by simp [HA.out]) 1 rfl (by omega), (Below.one _ _).trans ((Below.one _ _).mono (by simp))⟩

theorem named_any (x : Ins) (c0 c1 c2 c3 c4 : Value) (B : Nat) (w : World) (hx : InsR w B x [c0, c1, c2, c3, c4]) (hB : B ≤ w.heap.size) (hmx : x.l.length ≤ 1000000) (h0 : 0 ≤ x.op) (h1 : x.op ≤ 22) :
    Calls Tryz.prog 19 #[.agg #[c0, c1, c2, c3, c4]] w (NamedPost x w) := by
  obtain ⟨op, d, a, b, l⟩ := x
  obtain ⟨sl, he, _, _, ha, hb, hv⟩ := hx
  simp only [List.cons.injEq, and_true] at he
  obtain ⟨rfl, rfl, rfl, rfl, rfl⟩ := he
  obtain ⟨o, len, cap, rfl⟩ := hv.form
  dsimp only at ha hb hv hmx h0 h1
  obtain ⟨n, rfl⟩ : ∃ n : Nat, op = n := ⟨op.toNat, by omega⟩
  have hn : n ≤ 22 := by omega
  clear h0 h1
  match n, hn with
  | 0, _ => exact named_0 d a b l o len cap B w ha hb hv hB hmx
  | 1, _ => exact named_1 d a b l o len cap B w ha hb hv hB hmx
  | 2, _ => exact named_2 d a b l o len cap B w ha hb hv hB hmx
  | 3, _ => exact named_3 d a b l o len cap B w ha hb hv hB hmx
  | 4, _ => exact named_4 d a b l o len cap B w ha hb hv hB hmx
  | 5, _ => exact named_5 d a b l o len cap B w ha hb hv hB hmx
  | 6, _ => exact named_6 d a b l o len cap B w ha hb hv hB hmx
  | 7, _ => exact named_7 d a b l o len cap B w ha hb hv hB hmx
  | 8, _ => exact named_8 d a b l o len cap B w ha hb hv hB hmx
  | 9, _ => exact named_9 d a b l o len cap B w ha hb hv hB hmx
  | 10, _ => exact named_10 d a b l o len cap B w ha hb hv hB hmx
  | 11, _ => exact named_11 d a b l o len cap B w ha hb hv hB hmx
  | 12, _ => exact named_12 d a b l o len cap B w ha hb hv hB hmx
  | 13, _ => exact named_13 d a b l o len cap B w ha hb hv hB hmx
  | 14, _ => exact named_14 d a b l o len cap B w ha hb hv hB hmx
  | 15, _ => exact named_15 d a b l o len cap B w ha hb hv hB hmx
  | 16, _ => exact named_16 d a b l o len cap B w ha hb hv hB hmx
  | 17, _ => exact named_17 d a b l o len cap B w ha hb hv hB hmx
  | 18, _ => exact named_18 d a b l o len cap B w ha hb hv hB hmx
  | 19, _ => exact named_19 d a b l o len cap B w ha hb hv hB hmx
  | 20, _ => exact named_20 d a b l o len cap B w ha hb hv hB hmx
  | 21, _ => exact named_21 d a b l o len cap B w ha hb hv hB hmx
  | 22, _ => exact named_22 d a b l o len cap B w ha hb hv hB hmx
  | n + 23, h => omega
end Go.Proofs.YtigkhmppnnljiaaGreatDoor

namespace Go.Proofs.YtigkhmppnnljiaaGreatDoor
open Go Go.RowKit Go.Maps Go.ChangeMaps Go.MapKept
open Go.WideElems (Fit findIdx_born findIdx_arr modify_last set_self )

theorem key_int : Keyed Tryz.prog 3 := int_keyed Tryz.underlying3
theorem isKeyZ (x : Int) : WideAt.IsKeyLit (.int .i64 x) := by simp [WideAt.IsKeyLit]
theorem zeroB (w : World) : (zeroValue 4).run Tryz.prog w = .ok (.bool false) w := by kernel_rfl
theorem zeroI (w : World) : (zeroValue 3).run Tryz.prog w = .ok (.int .i64 0) w := by kernel_rfl
theorem wf_i64 {x : Int} (h : I64 x) : (Lit.int .i64 x).wf = true := by
  have h1 := h.1
  have h2 := h.2
  have e1 : IntKind.i64.min = -9223372036854775808 := by decide
  have e2 : IntKind.i64.max = 9223372036854775807 := by decide
  simp [Lit.wf, e1, e2]; omega
theorem keyOf_i64 {x : Int} (h : I64 x) : keyOf Tryz.prog 3 (.int .i64 x) = some (.int .i64 x) := keyOf_int_mk Tryz.underlying3 (wf_i64 h)

/-- A map[int]bool, by the function that it is. -/
def MapVB (W : World) (b n : Nat) (f : Int → Bool) : Prop := ∃ D : DataW Unit, W.ownsMap Tryz.prog 3 (plainElem Tryz.prog 4) b n D ∧ IsMap D ∧ ∀ x, D.atKey (.int .i64 x) (.lit (.bool false)) = .lit (.bool (f x))
/-- A map[int]int. -/
def MapVI (W : World) (b n : Nat) (f : Int → Int) : Prop := ∃ D : DataW Unit, W.ownsMap Tryz.prog 3 (plainElem Tryz.prog 3) b n D ∧ IsMap D ∧ ∀ x, D.atKey (.int .i64 x) (.lit (.int .i64 0)) = .lit (.int .i64 (f x))
theorem MapVB.new (W : World) : MapVB (W.alloc (.map #[] 0)) W.heap.size 0 (fun _ => false) := ⟨_, World.ownsMap_made _ _ _ _, isMap_empty, fun x => by simp [DataW.atKey]⟩
theorem MapVI.new (W : World) : MapVI (W.alloc (.map #[] 0)) W.heap.size 0 (fun _ => 0) := ⟨_, World.ownsMap_made _ _ _ _, isMap_empty, fun x => by simp [DataW.atKey]⟩
theorem MapVB.lt {W : World} {b n : Nat} {f : Int → Bool} (h : MapVB W b n f) : b < W.heap.size := let ⟨_, h, _⟩ := h; h.lt
theorem MapVI.lt {W : World} {b n : Nat} {f : Int → Int} (h : MapVI W b n f) : b < W.heap.size := let ⟨_, h, _⟩ := h; h.lt
theorem ownsMap_block {P : Program} {k : TypeId} {R : Value → Option (DataW Unit × List MemPlace)} {W W' : World} {b n : Nat} {D : DataW Unit} (h : W.ownsMap P k R b n D) (hb : W'.heap[b]? = W.heap[b]?) : W'.ownsMap P k R b n D := by
  obtain ⟨es, clock, h1, h2⟩ := h
  exact ⟨es, clock, hb.trans h1, h2⟩
theorem MapVB.same {W W' : World} {b n : Nat} {f : Int → Bool} (h : MapVB W b n f) (hb : W'.heap[b]? = W.heap[b]?) : MapVB W' b n f := let ⟨D, h1, h2⟩ := h; ⟨D, ownsMap_block h1 hb, h2⟩
theorem MapVI.same {W W' : World} {b n : Nat} {f : Int → Int} (h : MapVI W b n f) (hb : W'.heap[b]? = W.heap[b]?) : MapVI W' b n f := let ⟨D, h1, h2⟩ := h; ⟨D, ownsMap_block h1 hb, h2⟩
theorem MapVB.keep {W W' : World} {b n : Nat} {f : Int → Bool} (h : MapVB W b n f) (hb : Below W.heap.size W W') : MapVB W' b n f := h.same (hb.block _ h.lt)
theorem MapVI.keep {W W' : World} {b n : Nat} {f : Int → Int} (h : MapVI W b n f) (hb : Below W.heap.size W W') : MapVI W' b n f := h.same (hb.block _ h.lt)
theorem MapVB.mono {W : World} {b n n' : Nat} {f : Int → Bool} (h : MapVB W b n f) (hn : n ≤ n') : MapVB W b n' f := let ⟨D, h1, h2⟩ := h; ⟨D, h1.mono hn, h2⟩
theorem MapVB.put {D : DataW Unit} {f : Int → Bool} (hD : IsMap D) (hf : ∀ x, D.atKey (.int .i64 x) (.lit (.bool false)) = .lit (.bool (f x))) (k : Int) (c : Bool) : ∀ x, (D.put (.int .i64 k) (.lit (.bool c))).atKey (.int .i64 x) (.lit (.bool false)) = .lit (.bool (if x = k then c else f x)) := fun x => by
  by_cases h : x = k
  · subst h; rw [atKey_put_same hD (isKeyZ x), if_pos rfl]
  · rw [atKey_put_other (by intro e; simp only [Lit.int.injEq, true_and] at e; omega), hf x, if_neg h]
theorem MapVI.put {D : DataW Unit} {f : Int → Int} (hD : IsMap D) (hf : ∀ x, D.atKey (.int .i64 x) (.lit (.int .i64 0)) = .lit (.int .i64 (f x))) (k : Int) (c : Int) : ∀ x, (D.put (.int .i64 k) (.lit (.int .i64 c))).atKey (.int .i64 x) (.lit (.int .i64 0)) = .lit (.int .i64 (if x = k then c else f x)) := fun x => by
  by_cases h : x = k
  · subst h; rw [atKey_put_same hD (isKeyZ x), if_pos rfl]
  · rw [atKey_put_other (by intro e; simp only [Lit.int.injEq, true_and] at e; omega), hf x, if_neg h]
theorem MapVB.del {D : DataW Unit} {f : Int → Bool} (hf : ∀ x, D.atKey (.int .i64 x) (.lit (.bool false)) = .lit (.bool (f x))) (k : Int) : ∀ x, (D.del (.int .i64 k)).atKey (.int .i64 x) (.lit (.bool false)) = .lit (.bool (if x = k then false else f x)) := fun x => by
  by_cases h : x = k
  · subst h; rw [atKey_del_same, if_pos rfl]
  · rw [atKey_del_other (by intro e; simp only [Lit.int.injEq, true_and] at e; omega), hf x, if_neg h]

section
variable {w : World} {ops : Array Oper} {rest : List Oper} {o : Oper} {a : Act} {Q : Exit → Act → World → Prop}
/-- 'm[k]' of bools. -/
theorem wpList_lookVB (hg : Region.wanted o (yielded ops a.tmps) = true) (m x : Operand) (hop : o.op = Op.lookup 101 m x false) (b n : Nat) (f : Int → Bool) (hm : a.eval m = .map (some b)) (hown : MapVB w b n f) (k : Int) (hx : a.eval x = .int .i64 k) (hk : I64 k)
    (hK : wpList Tryz.prog ops Q rest (a.put o.dst (.bool (f k))) w) : wpList Tryz.prog ops Q (o :: rest) a w := by
  obtain ⟨D, h1, h2, h3⟩ := hown
  exact wpList_lookup_own_bool w hg m x _ hop 3 4 key_int Tryz.underlying101 Tryz.underlying4 (zeroB w) b n D hm h1 _ _ hx (keyOf_i64 hk) (f k) (h3 k) hK
/-- 'm[k] = v' of ints. -/
theorem wpList_putVI (hg : o.guard = none) (m x v : Operand) (hop : o.op = Op.mapUpdate 108 m x v) (b n : Nat) (f : Int → Int) (hm : a.eval m = .map (some b)) (hown : MapVI w b n f) (hn : n < 1000000000000) (k c : Int) (hx : a.eval x = .int .i64 k) (hv : a.eval v = .int .i64 c) (hk : I64 k) (hc : I64 c)
    (hK : ∀ w', MapVI w' b (n + 1) (fun x => if x = k then c else f x) → w.grownBy w' (some b) → wpList Tryz.prog ops Q rest (a.put o.dst undef) w') : wpList Tryz.prog ops Q (o :: rest) a w := by
  obtain ⟨D, h1, h2, h3⟩ := hown
  refine wpList_mapUpdate_own w hg m x v _ hop 3 3 key_int Tryz.underlying108 _ b n D hm h1 (by unfold maxLen; omega) _ _ _ hx hv (keyOf_i64 hk) _ _ (plainElem_int Tryz.underlying3 (wf_i64 hc)) ?_
  intro w' h4 h5
  exact hK w' ⟨_, h4, h2.put _ _, MapVI.put h2 h3 k c⟩ h5
/-- 'm[k] = v' of bools. -/
theorem wpList_putVB (hg : o.guard = none) (m x v : Operand) (hop : o.op = Op.mapUpdate 101 m x v) (b n : Nat) (f : Int → Bool) (hm : a.eval m = .map (some b)) (hown : MapVB w b n f) (hn : n < 1000000000000000) (k : Int) (c : Bool) (hx : a.eval x = .int .i64 k) (hv : a.eval v = .bool c) (hk : I64 k)
    (hK : ∀ w', MapVB w' b (n + 1) (fun x => if x = k then c else f x) → w.grownBy w' (some b) → wpList Tryz.prog ops Q rest (a.put o.dst undef) w') : wpList Tryz.prog ops Q (o :: rest) a w := by
  obtain ⟨D, h1, h2, h3⟩ := hown
  refine wpList_mapUpdate_own w hg m x v _ hop 3 4 key_int Tryz.underlying101 _ b n D hm h1 (by unfold maxLen; omega) _ _ _ hx hv (keyOf_i64 hk) _ _ (plainElem_bool Tryz.underlying4 c) ?_
  intro w' h4 h5
  exact hK w' ⟨_, h4, h2.put _ _, MapVB.put h2 h3 k c⟩ h5
/-- 'delete(m, k)'. -/
theorem wpList_delVB (hg : o.guard = none) (m x : Operand) (hop : o.op = Op.call { callee := Callee.builtin Builtin.delete, args := #[m, x], argTypes := #[101, 3] }) (b n : Nat) (f : Int → Bool) (hm : a.eval m = .map (some b)) (hown : MapVB w b n f) (k : Int) (hx : a.eval x = .int .i64 k) (hk : I64 k)
    (hK : ∀ w', MapVB w' b n (fun x => if x = k then false else f x) → w.grownBy w' (some b) → wpList Tryz.prog ops Q rest (a.put o.dst (.tuple #[])) w') : wpList Tryz.prog ops Q (o :: rest) a w := by
  obtain ⟨D, h1, h2, h3⟩ := hown
  refine wpList_delete_own w hg m x _ _ hop 4 key_int Tryz.underlying101 _ b n D hm h1 _ _ hx (keyOf_i64 hk) ?_
  intro w' h4 h5
  exact hK w' ⟨_, h4, by obtain ⟨es, rfl⟩ := h2; exact ⟨_, rfl⟩, MapVB.del h3 k⟩ h5.grown
end

/-- An entry that is laid, and then stored into, is a store. -/
theorem entry_own {P : Program} {t k e : TypeId} {R : Value → Option (DataW Unit × List MemPlace)} {w : World} {b n : Nat} {D : DataW Unit} (h : w.ownsMap P k R b n D) (K : Keyed P k) (ht : P.underlying t = some (.map k e)) {z : Value} (hz : ∀ u : World, (zeroValue e).run P u = .ok z u) (hn : n < maxLen) {key : Value} {kl : Lit} (hkey : keyOf P k key = some kl) :
    ∃ v0 st w1, (Instr.mapEntry t (.map (some b)) key).run P w = .ok (.tuple #[v0, st]) w1 ∧ (∀ c, c ≠ b → w1.heap[c]? = w.heap[c]?) ∧ w1.heap.size = w.heap.size ∧ ∀ val d ps, R val = some (d, ps) → ∃ w2, (Instr.entryStore t (.map (some b)) st val).run P w1 = .ok () w2 ∧ w2.ownsMap P k R b (n + 1) (D.put kl d) ∧ w.grownBy w2 (some b) := by
  have H := h
  obtain ⟨es, clock, hb, F, hs, hD⟩ := h
  obtain ⟨s1, s2, _⟩ := F.stamped
  have others : ∀ o c, c ≠ b → (setBlock w b o).heap[c]? = w.heap[c]? := fun o c hc => heap_setBlock_other hb _ hc
  rcases K.find w hkey es.toList F.keys with ⟨f1, f2⟩ | ⟨j, e0, f1, f2, f3⟩
  · refine ⟨z, goInt clock, setBlock w b (.map (es.push ⟨key, z, clock⟩) (clock + 1)), ?_, others _, by simp [setBlock], fun val d ps hv => ?_⟩
    · simp [Instr.mapEntry, run_underlying ht, MapKept.run_getObj_map hb, K.check w false hkey, f1, hz, MapKept.run_setObj_map _ hb, Result.andThen, setBlock]
    obtain ⟨w2, hrun, h1, h2⟩ := H.update K ht hn hkey hv
    have hup : (Instr.mapUpdate t (.map (some b)) key val).run P w = .ok () (setBlock w b (.map (es.push ⟨key, val, clock⟩) (clock + 1))) := by
      simp [Instr.mapUpdate, run_underlying ht, MapKept.run_getObj_map hb, K.check w false hkey, f1, MapKept.run_setObj_map _ hb, Result.andThen, setBlock]
    obtain rfl : setBlock w b (.map (es.push ⟨key, val, clock⟩) (clock + 1)) = w2 := by simpa using hup.symm.trans hrun
    refine ⟨_, ?_, h1, h2⟩
    have hw1 : (setBlock w b (.map (es.push ⟨key, z, clock⟩) (clock + 1))).heap[b]? = some (.map (es.push ⟨key, z, clock⟩) (clock + 1)) := heap_setBlock_same hb _
    have hidx : (es.push ⟨key, z, clock⟩).findIdx? (fun e => ((e.born : Nat) : Int) == ((clock : Nat) : Int)) = some es.size := by
      rw [findIdx_arr]
      refine findIdx_born (l := (es.push ⟨key, z, clock⟩).toList) (j := es.size) (e0 := ⟨key, z, clock⟩) ?_ (by simp)
      rw [Array.toList_push, List.map_append]
      refine List.nodup_append.2 ⟨s2, by simp, fun p hp q hq => ?_⟩
      obtain ⟨x, hx, rfl⟩ := List.mem_map.1 hp
      have hq : q = clock := by simpa using hq
      have := s1 x hx
      omega
    have hmod : (es.push ⟨key, z, clock⟩).modify es.size (fun e => { e with val := val }) = es.push ⟨key, val, clock⟩ := by
      apply Array.ext'
      simp only [Array.toList_modify, Array.toList_push]
      exact modify_last _ _ es.toList
    simp [Instr.entryStore, MapKept.run_getObj_map hw1, asInt, asIntOf, goInt, hidx, hmod, MapKept.run_setObj_map _ hw1, Result.andThen]
    unfold setBlock
    simp
  · have hj : es[j]? = some e0 := by simpa using f2
    have hsame : es.modify j (fun e => { e with key := key }) = es := by
      apply Array.ext'
      rw [Array.toList_modify, modify_eq_set _ _ _ _ f2, show ({ e0 with key := key } : MapEntry) = e0 by rw [← f3]]
      exact set_self _ _ _ f2
    refine ⟨e0.val, goInt e0.born, setBlock w b (.map es clock), ?_, others _, by simp [setBlock], fun val d ps hv => ?_⟩
    · simp [Instr.mapEntry, run_underlying ht, MapKept.run_getObj_map hb, K.check w false hkey, f1, hj, f3, K.stays w hkey, hsame, MapKept.run_setObj_map _ hb, Result.andThen, setBlock]
    obtain ⟨w2, hrun, h1, h2⟩ := H.update K ht hn hkey hv
    have hup : (Instr.mapUpdate t (.map (some b)) key val).run P w = .ok () (setBlock w b (.map (es.modify j fun e => { e with key := key, val := val }) clock)) := by
      simp [Instr.mapUpdate, run_underlying ht, MapKept.run_getObj_map hb, K.check w false hkey, f1, hj, f3, K.stays w hkey, MapKept.run_setObj_map _ hb, Result.andThen, setBlock]
    obtain rfl : setBlock w b (.map (es.modify j fun e => { e with key := key, val := val }) clock) = w2 := by simpa using hup.symm.trans hrun
    refine ⟨_, ?_, h1, h2⟩
    have hw1 : (setBlock w b (.map es clock)).heap[b]? = some (.map es clock) := heap_setBlock_same hb _
    have hidx : es.findIdx? (fun e => ((e.born : Nat) : Int) == ((e0.born : Nat) : Int)) = some j := by
      rw [findIdx_arr]
      exact findIdx_born s2 f2
    have hmod : es.modify j (fun e => { e with val := val }) = es.modify j (fun e => { e with key := key, val := val }) := by
      apply Array.ext'
      simp only [Array.toList_modify, modify_eq_set _ _ _ _ f2, ← f3]
    simp [Instr.entryStore, MapKept.run_getObj_map hw1, asInt, asIntOf, goInt, hidx, hmod, MapKept.run_setObj_map _ hw1, Result.andThen]
    unfold setBlock
    simp

/-- An entry is laid: what a store into it will bring. -/
def Laid (t : TypeId) (w w1 : World) (b n : Nat) (f : Int → Bool) (k : Int) (st : Value) : Prop := (∀ c, c ≠ b → w1.heap[c]? = w.heap[c]?) ∧ w1.heap.size = w.heap.size ∧ ∀ c : Bool, ∃ w2, (Instr.entryStore t (.map (some b)) st (.bool c)).run Tryz.prog w1 = .ok () w2 ∧ MapVB w2 b (n + 1) (fun x => if x = k then c else f x) ∧ w.grownBy w2 (some b)
section
variable {w : World} {ops : Array Oper} {rest : List Oper} {o : Oper} {a : Act} {Q : Exit → Act → World → Prop}
theorem wpList_entryVB (hg : o.guard = none) (m x : Operand) (hop : o.op = Op.mapEntry 101 m x) (b n : Nat) (f : Int → Bool) (hm : a.eval m = .map (some b)) (hown : MapVB w b n f) (hn : n < 1000000000000000) (k : Int) (hx : a.eval x = .int .i64 k) (hk : I64 k)
    (hK : ∀ w1 v0 st, Hid (Laid 101 w w1 b n f k st) → wpList Tryz.prog ops Q rest (a.put o.dst (.tuple #[v0, st])) w1) : wpList Tryz.prog ops Q (o :: rest) a w := by
  obtain ⟨D, h1, h2, h3⟩ := hown
  obtain ⟨v0, st, w1, hrun, ho, hs, hst⟩ := entry_own h1 key_int Tryz.underlying101 (z := .bool false) zeroB (by unfold maxLen; omega) (keyOf_i64 hk)
  refine wpList_plain hg fun K' hK' => ?_
  unfold Oper.wp
  simp [execOp, hop, hm, hx, hrun, Result.andThen]
  refine hK' _ _ (hK w1 v0 st (Lib.hid ⟨ho, hs, fun c => ?_⟩))
  obtain ⟨w2, g1, g2, g3⟩ := hst (.bool c) _ _ (plainElem_bool Tryz.underlying4 c)
  exact ⟨w2, g1, ⟨_, g2, h2.put _ _, MapVB.put h2 h3 k c⟩, g3⟩
theorem wpList_storeVB (hg : o.guard = none) (m s v : Operand) (hop : o.op = Op.entryStore 101 m s v) {w0 : World} (b n : Nat) (f : Int → Bool) (k : Int) (st : Value) (c : Bool) (hl : Hid (Laid 101 w0 w b n f k st)) (hm : a.eval m = .map (some b)) (hs : a.eval s = st) (hv : a.eval v = .bool c)
    (hK : ∀ w', MapVB w' b (n + 1) (fun x => if x = k then c else f x) → w0.grownBy w' (some b) → wpList Tryz.prog ops Q rest (a.put o.dst undef) w') : wpList Tryz.prog ops Q (o :: rest) a w := by
  obtain ⟨w2, g1, g2, g3⟩ := hl.out.2.2 c
  refine wpList_plain hg fun K' hK' => ?_
  unfold Oper.wp
  simp [execOp, hop, hm, hs, hv, g1, Result.andThen]
  exact hK' _ _ (hK w2 g2 g3)
end
end Go.Proofs.YtigkhmppnnljiaaGreatDoor

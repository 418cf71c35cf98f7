/-
  What the proofs lean on: RNamed, ModOpen.
-/
import Derived.Test.YtigkhmppnnljiaaGreatDoorLsoA13
set_option maxRecDepth 100000
set_option maxHeartbeats 16000000
namespace Go.Proofs.YtigkhmppnnljiaaGreatDoor
section
open Go.RowKit
def NamedPost (x : Ins) (w : World) (e : Ending) (w' : World) : Prop := ∃ sl, e = .returned (.tuple #[sl, .int .i64 (Unt.gives x)]) ∧ SlC w' w'.heap.size 1 IntR (Unt.named x) sl ∧ Below w.heap.size w w'
theorem intsNew {W : World} {b B : Nat} (hb : b = W.heap.size) (hB : b < B) (t : TypeId) (l : List Int) (hl : ∀ x ∈ l, I64 x) (n : Nat) (hn : n = l.length) (hm : n ≤ 1000000) : SlC (W.alloc (.cells (l.map (Value.int .i64)).toArray t)) B 1 IntR l (.slice (some ⟨b, 0, none⟩) n n) := by
 subst hb
 refine ⟨_, n, n, rfl, hn, Nat.le_refl _, by omega, fun _ => ⟨rfl, hB⟩, fun i x hx => ⟨[.int .i64 x], rfl, fun j u hj => ?_, rfl, hl x (List.mem_of_getElem? hx)⟩⟩
 match j, hj with
 | 0, hj =>
  simp only [List.getElem?_cons_zero, Option.some.injEq] at hj
  subst hj
  have h1 : (l.map (Value.int .i64)).toArray[i]? = some (.int .i64 x) := by simp [hx]
  simpa using box_cell W _ t i h1
theorem named_0 (d a b : Int) (l : List Int) (o : Option Addr) (len cap : Nat) (B : Nat) (w : World) (ha : I64 a) (hb : I64 b) (hv : SlC w B 1 IntR l (.slice o len cap)) (_hB : B ≤ w.heap.size) (hmx : l.length ≤ 1000000) :
  Calls Tryz.prog 19 #[.agg #[.int .i64 0, .int .i64 d, .int .i64 a, .int .i64 b, .slice o len cap]] w (NamedPost ⟨0, d, a, b, l⟩ w) := by
 have HG : Unt.gives ⟨0, d, a, b, l⟩ = d := by simp [Unt.gives]
 have HN : Unt.named ⟨0, d, a, b, l⟩ = [] := by simp [Unt.named]
 unfold NamedPost
 rw [HG, HN]
 have HV := Lib.hid hv
 have HA := Lib.hid ha
 have HB := Lib.hid hb
 obtain ⟨hlen, hcap, hmax⟩ := hv.lens
 have HL := Lib.hid hlen
 have hmx' : len ≤ 1000000 := by omega
 clear HG HN hv ha hb hlen
 go_enter Tryz.func19, Tryz.ntmps19
 go_wp2_with fail
 go_ret2
 exact ⟨_, rfl, ⟨none, 0, 0, rfl, rfl, by omega, by omega, rfl, rfl⟩, Below.one _ _⟩
theorem named_1 (d a b : Int) (l : List Int) (o : Option Addr) (len cap : Nat) (B : Nat) (w : World) (ha : I64 a) (hb : I64 b) (hv : SlC w B 1 IntR l (.slice o len cap)) (_hB : B ≤ w.heap.size) (hmx : l.length ≤ 1000000) :
  Calls Tryz.prog 19 #[.agg #[.int .i64 1, .int .i64 d, .int .i64 a, .int .i64 b, .slice o len cap]] w (NamedPost ⟨1, d, a, b, l⟩ w) := by
 have HG : Unt.gives ⟨1, d, a, b, l⟩ = d := by simp [Unt.gives]
 have HN : Unt.named ⟨1, d, a, b, l⟩ = [a] := by simp [Unt.named]
 unfold NamedPost
 rw [HG, HN]
 have HV := Lib.hid hv
 have HA := Lib.hid ha
 have HB := Lib.hid hb
 obtain ⟨hlen, hcap, hmax⟩ := hv.lens
 have HL := Lib.hid hlen
 have hmx' : len ≤ 1000000 := by omega
 clear HG HN hv ha hb hlen
 go_enter Tryz.func19, Tryz.ntmps19
 go_wp2_with fail
 go_ret2
 exact ⟨_, rfl, intsNew (B := ((w.alloc (.cells #[.int .i64 1, .int .i64 d, .int .i64 a, .int .i64 b, .slice o len cap] 34)).alloc (.cells #[.int .i64 a] 3)).heap.size) (by simp) (by simp) 3 [a] (by simp [HA.out]) 1 rfl (by omega), (Below.one _ _).trans ((Below.one _ _).mono (by simp))⟩
theorem named_2 (d a b : Int) (l : List Int) (o : Option Addr) (len cap : Nat) (B : Nat) (w : World) (ha : I64 a) (hb : I64 b) (hv : SlC w B 1 IntR l (.slice o len cap)) (_hB : B ≤ w.heap.size) (hmx : l.length ≤ 1000000) :
  Calls Tryz.prog 19 #[.agg #[.int .i64 2, .int .i64 d, .int .i64 a, .int .i64 b, .slice o len cap]] w (NamedPost ⟨2, d, a, b, l⟩ w) := by
 have HG : Unt.gives ⟨2, d, a, b, l⟩ = d := by simp [Unt.gives]
 have HN : Unt.named ⟨2, d, a, b, l⟩ = [] := by simp [Unt.named]
 unfold NamedPost
 rw [HG, HN]
 have HV := Lib.hid hv
 have HA := Lib.hid ha
 have HB := Lib.hid hb
 obtain ⟨hlen, hcap, hmax⟩ := hv.lens
 have HL := Lib.hid hlen
 have hmx' : len ≤ 1000000 := by omega
 clear HG HN hv ha hb hlen
 go_enter Tryz.func19, Tryz.ntmps19
 go_wp2_with fail
 go_ret2
 exact ⟨_, rfl, ⟨none, 0, 0, rfl, rfl, by omega, by omega, rfl, rfl⟩, Below.one _ _⟩
theorem named_3 (d a b : Int) (l : List Int) (o : Option Addr) (len cap : Nat) (B : Nat) (w : World) (ha : I64 a) (hb : I64 b) (hv : SlC w B 1 IntR l (.slice o len cap)) (_hB : B ≤ w.heap.size) (hmx : l.length ≤ 1000000) :
  Calls Tryz.prog 19 #[.agg #[.int .i64 3, .int .i64 d, .int .i64 a, .int .i64 b, .slice o len cap]] w (NamedPost ⟨3, d, a, b, l⟩ w) := by
 have HG : Unt.gives ⟨3, d, a, b, l⟩ = d := by simp [Unt.gives]
 have HN : Unt.named ⟨3, d, a, b, l⟩ = [] := by simp [Unt.named]
 unfold NamedPost
 rw [HG, HN]
 have HV := Lib.hid hv
 have HA := Lib.hid ha
 have HB := Lib.hid hb
 obtain ⟨hlen, hcap, hmax⟩ := hv.lens
 have HL := Lib.hid hlen
 have hmx' : len ≤ 1000000 := by omega
 clear HG HN hv ha hb hlen
 go_enter Tryz.func19, Tryz.ntmps19
 go_wp2_with fail
 go_ret2
 exact ⟨_, rfl, ⟨none, 0, 0, rfl, rfl, by omega, by omega, rfl, rfl⟩, Below.one _ _⟩
theorem named_4 (d a b : Int) (l : List Int) (o : Option Addr) (len cap : Nat) (B : Nat) (w : World) (ha : I64 a) (hb : I64 b) (hv : SlC w B 1 IntR l (.slice o len cap)) (_hB : B ≤ w.heap.size) (hmx : l.length ≤ 1000000) :
  Calls Tryz.prog 19 #[.agg #[.int .i64 4, .int .i64 d, .int .i64 a, .int .i64 b, .slice o len cap]] w (NamedPost ⟨4, d, a, b, l⟩ w) := by
 have HG : Unt.gives ⟨4, d, a, b, l⟩ = d := by simp [Unt.gives]
 have HN : Unt.named ⟨4, d, a, b, l⟩ = [] := by simp [Unt.named]
 unfold NamedPost
 rw [HG, HN]
 have HV := Lib.hid hv
 have HA := Lib.hid ha
 have HB := Lib.hid hb
 obtain ⟨hlen, hcap, hmax⟩ := hv.lens
 have HL := Lib.hid hlen
 have hmx' : len ≤ 1000000 := by omega
 clear HG HN hv ha hb hlen
 go_enter Tryz.func19, Tryz.ntmps19
 go_wp2_with fail
 go_ret2
 exact ⟨_, rfl, ⟨none, 0, 0, rfl, rfl, by omega, by omega, rfl, rfl⟩, Below.one _ _⟩
theorem named_5 (d a b : Int) (l : List Int) (o : Option Addr) (len cap : Nat) (B : Nat) (w : World) (ha : I64 a) (hb : I64 b) (hv : SlC w B 1 IntR l (.slice o len cap)) (_hB : B ≤ w.heap.size) (hmx : l.length ≤ 1000000) :
  Calls Tryz.prog 19 #[.agg #[.int .i64 5, .int .i64 d, .int .i64 a, .int .i64 b, .slice o len cap]] w (NamedPost ⟨5, d, a, b, l⟩ w) := by
 have HG : Unt.gives ⟨5, d, a, b, l⟩ = d := by simp [Unt.gives]
 have HN : Unt.named ⟨5, d, a, b, l⟩ = [] := by simp [Unt.named]
 unfold NamedPost
 rw [HG, HN]
 have HV := Lib.hid hv
 have HA := Lib.hid ha
 have HB := Lib.hid hb
 obtain ⟨hlen, hcap, hmax⟩ := hv.lens
 have HL := Lib.hid hlen
 have hmx' : len ≤ 1000000 := by omega
 clear HG HN hv ha hb hlen
 go_enter Tryz.func19, Tryz.ntmps19
 go_wp2_with fail
 go_ret2
 exact ⟨_, rfl, ⟨none, 0, 0, rfl, rfl, by omega, by omega, rfl, rfl⟩, Below.one _ _⟩
theorem named_6 (d a b : Int) (l : List Int) (o : Option Addr) (len cap : Nat) (B : Nat) (w : World) (ha : I64 a) (hb : I64 b) (hv : SlC w B 1 IntR l (.slice o len cap)) (_hB : B ≤ w.heap.size) (hmx : l.length ≤ 1000000) :
  Calls Tryz.prog 19 #[.agg #[.int .i64 6, .int .i64 d, .int .i64 a, .int .i64 b, .slice o len cap]] w (NamedPost ⟨6, d, a, b, l⟩ w) := by
 have HG : Unt.gives ⟨6, d, a, b, l⟩ = d := by simp [Unt.gives]
 have HN : Unt.named ⟨6, d, a, b, l⟩ = [] := by simp [Unt.named]
 unfold NamedPost
 rw [HG, HN]
 have HV := Lib.hid hv
 have HA := Lib.hid ha
 have HB := Lib.hid hb
 obtain ⟨hlen, hcap, hmax⟩ := hv.lens
 have HL := Lib.hid hlen
 have hmx' : len ≤ 1000000 := by omega
 clear HG HN hv ha hb hlen
 go_enter Tryz.func19, Tryz.ntmps19
 go_wp2_with fail
 go_ret2
 exact ⟨_, rfl, ⟨none, 0, 0, rfl, rfl, by omega, by omega, rfl, rfl⟩, Below.one _ _⟩
theorem named_7 (d a b : Int) (l : List Int) (o : Option Addr) (len cap : Nat) (B : Nat) (w : World) (ha : I64 a) (hb : I64 b) (hv : SlC w B 1 IntR l (.slice o len cap)) (hB : B ≤ w.heap.size) (hmx : l.length ≤ 1000000) :
  Calls Tryz.prog 19 #[.agg #[.int .i64 7, .int .i64 d, .int .i64 a, .int .i64 b, .slice o len cap]] w (NamedPost ⟨7, d, a, b, l⟩ w) := by
 have HG : Unt.gives ⟨7, d, a, b, l⟩ = d := by simp [Unt.gives]
 have HN : Unt.named ⟨7, d, a, b, l⟩ = l := by simp [Unt.named]
 unfold NamedPost
 rw [HG, HN]
 have HV := Lib.hid hv
 have HA := Lib.hid ha
 have HB := Lib.hid hb
 obtain ⟨hlen, hcap, hmax⟩ := hv.lens
 have HL := Lib.hid hlen
 have hmx' : len ≤ 1000000 := by omega
 clear HG HN hv ha hb hlen
 go_enter Tryz.func19, Tryz.ntmps19
 go_wp2_with fail
 go_ret2
 exact ⟨_, rfl, (HV.out.kept ((Below.one w _).mono hB) fun _ _ _ h => h).wider (by simp; omega), Below.one _ _⟩
theorem named_8 (d a b : Int) (l : List Int) (o : Option Addr) (len cap : Nat) (B : Nat) (w : World) (ha : I64 a) (hb : I64 b) (hv : SlC w B 1 IntR l (.slice o len cap)) (hB : B ≤ w.heap.size) (hmx : l.length ≤ 1000000) :
  Calls Tryz.prog 19 #[.agg #[.int .i64 8, .int .i64 d, .int .i64 a, .int .i64 b, .slice o len cap]] w (NamedPost ⟨8, d, a, b, l⟩ w) := by
 have HG : Unt.gives ⟨8, d, a, b, l⟩ = -1 := by simp [Unt.gives]
 have HN : Unt.named ⟨8, d, a, b, l⟩ = a :: l := by simp [Unt.named]
 unfold NamedPost
 rw [HG, HN]
 have HV := Lib.hid hv
 have HA := Lib.hid ha
 have HB := Lib.hid hb
 obtain ⟨hlen, hcap, hmax⟩ := hv.lens
 have HL := Lib.hid hlen
 have hmx' : len ≤ 1000000 := by omega
 clear HG HN hv ha hb hlen
 go_enter Tryz.func19, Tryz.ntmps19
 have HO := Lib.hid (ownsRow_new (W := (w.alloc (.cells #[.int .i64 8, .int .i64 d, .int .i64 a, .int .i64 b, .slice o len cap] 34))) (b := w.heap.size + 1) (base := w.heap.size) (by simp) (by omega) 3 1 1 [.int .i64 a] rfl (by unfold maxLen; omega))
 have HS := Lib.hid (show SlC ((w.alloc (.cells #[.int .i64 8, .int .i64 d, .int .i64 a, .int .i64 b, .slice o len cap] 34)).alloc (.cells [.int .i64 a].toArray 3)) B 1 IntR l (.slice o len cap) from HV.out.kept (((Below.one w _).trans ((Below.one _ _).mono (by simp))).mono hB) fun _ _ _ h => h)
 go_wp2_with (at_builtin; refine wpList_append_ints rfl (.tmp 36) (.tmp 38) rfl w.heap.size B (.slice (some ⟨w.heap.size + 1, 0, none⟩) 1 1) [a] l rfl HO.out o len cap rfl HS.out (by have := HL.out; simp; omega) (by simp; omega) ?_)
 intro v' w2 hown hgrow
 have HR := Lib.hid hown
 have HBE := Lib.hid (show Below w.heap.size w w2 from ((Below.one w _).trans ((Below.one _ _).mono (by simp))).grown hgrow (by simp; omega) (fun g hg => by simp [Value.ownBlock] at hg; omega))
 have bx : BoxL w2 w.heap.size 34 [.int .i64 8, .int .i64 d, .int .i64 a, .int .i64 b, .slice o len cap] := (hgrow.block _ (by simp; omega) (by simp [Value.ownBlock])).trans ((BoxL.new rfl _ _).alloc _)
 have x0 := bx.cell 0 rfl
 have x1 := bx.cell 1 rfl
 clear hown hgrow bx
 go_wp2_with fail
 go_ret2
 exact ⟨_, rfl, rowInts (l := [a] ++ l) HR.out (by intro x hx; rcases List.mem_cons.1 hx with rfl | h; exact HA.out; exact HV.out.i64 x h), HBE.out⟩
theorem named_9 (d a b : Int) (l : List Int) (o : Option Addr) (len cap : Nat) (B : Nat) (w : World) (ha : I64 a) (hb : I64 b) (hv : SlC w B 1 IntR l (.slice o len cap)) (hB : B ≤ w.heap.size) (hmx : l.length ≤ 1000000) :
  Calls Tryz.prog 19 #[.agg #[.int .i64 9, .int .i64 d, .int .i64 a, .int .i64 b, .slice o len cap]] w (NamedPost ⟨9, d, a, b, l⟩ w) := by
 have HG : Unt.gives ⟨9, d, a, b, l⟩ = d := by simp [Unt.gives]
 have HN : Unt.named ⟨9, d, a, b, l⟩ = l := by simp [Unt.named]
 unfold NamedPost
 rw [HG, HN]
 have HV := Lib.hid hv
 have HA := Lib.hid ha
 have HB := Lib.hid hb
 obtain ⟨hlen, hcap, hmax⟩ := hv.lens
 have HL := Lib.hid hlen
 have hmx' : len ≤ 1000000 := by omega
 clear HG HN hv ha hb hlen
 go_enter Tryz.func19, Tryz.ntmps19
 go_wp2_with fail
 go_ret2
 exact ⟨_, rfl, (HV.out.kept ((Below.one w _).mono hB) fun _ _ _ h => h).wider (by simp; omega), Below.one _ _⟩
theorem named_10 (d a b : Int) (l : List Int) (o : Option Addr) (len cap : Nat) (B : Nat) (w : World) (ha : I64 a) (hb : I64 b) (hv : SlC w B 1 IntR l (.slice o len cap)) (_hB : B ≤ w.heap.size) (hmx : l.length ≤ 1000000) :
  Calls Tryz.prog 19 #[.agg #[.int .i64 10, .int .i64 d, .int .i64 a, .int .i64 b, .slice o len cap]] w (NamedPost ⟨10, d, a, b, l⟩ w) := by
 have HG : Unt.gives ⟨10, d, a, b, l⟩ = d := by simp [Unt.gives]
 have HN : Unt.named ⟨10, d, a, b, l⟩ = [a] := by simp [Unt.named]
 unfold NamedPost
 rw [HG, HN]
 have HV := Lib.hid hv
 have HA := Lib.hid ha
 have HB := Lib.hid hb
 obtain ⟨hlen, hcap, hmax⟩ := hv.lens
 have HL := Lib.hid hlen
 have hmx' : len ≤ 1000000 := by omega
 clear HG HN hv ha hb hlen
 go_enter Tryz.func19, Tryz.ntmps19
 go_wp2_with fail
 go_ret2
 exact ⟨_, rfl, intsNew (B := ((w.alloc (.cells #[.int .i64 10, .int .i64 d, .int .i64 a, .int .i64 b, .slice o len cap] 34)).alloc (.cells #[.int .i64 a] 3)).heap.size) (by simp) (by simp) 3 [a] (by simp [HA.out]) 1 rfl (by omega), (Below.one _ _).trans ((Below.one _ _).mono (by simp))⟩
theorem named_11 (d a b : Int) (l : List Int) (o : Option Addr) (len cap : Nat) (B : Nat) (w : World) (ha : I64 a) (hb : I64 b) (hv : SlC w B 1 IntR l (.slice o len cap)) (_hB : B ≤ w.heap.size) (hmx : l.length ≤ 1000000) :
  Calls Tryz.prog 19 #[.agg #[.int .i64 11, .int .i64 d, .int .i64 a, .int .i64 b, .slice o len cap]] w (NamedPost ⟨11, d, a, b, l⟩ w) := by
 have HG : Unt.gives ⟨11, d, a, b, l⟩ = d := by simp [Unt.gives]
 have HN : Unt.named ⟨11, d, a, b, l⟩ = [a] := by simp [Unt.named]
 unfold NamedPost
 rw [HG, HN]
 have HV := Lib.hid hv
 have HA := Lib.hid ha
 have HB := Lib.hid hb
 obtain ⟨hlen, hcap, hmax⟩ := hv.lens
 have HL := Lib.hid hlen
 have hmx' : len ≤ 1000000 := by omega
 clear HG HN hv ha hb hlen
 go_enter Tryz.func19, Tryz.ntmps19
 go_wp2_with fail
 go_ret2
 exact ⟨_, rfl, intsNew (B := ((w.alloc (.cells #[.int .i64 11, .int .i64 d, .int .i64 a, .int .i64 b, .slice o len cap] 34)).alloc (.cells #[.int .i64 a] 3)).heap.size) (by simp) (by simp) 3 [a] (by simp [HA.out]) 1 rfl (by omega), (Below.one _ _).trans ((Below.one _ _).mono (by simp))⟩
theorem named_12 (d a b : Int) (l : List Int) (o : Option Addr) (len cap : Nat) (B : Nat) (w : World) (ha : I64 a) (hb : I64 b) (hv : SlC w B 1 IntR l (.slice o len cap)) (_hB : B ≤ w.heap.size) (hmx : l.length ≤ 1000000) :
  Calls Tryz.prog 19 #[.agg #[.int .i64 12, .int .i64 d, .int .i64 a, .int .i64 b, .slice o len cap]] w (NamedPost ⟨12, d, a, b, l⟩ w) := by
 have HG : Unt.gives ⟨12, d, a, b, l⟩ = -1 := by simp [Unt.gives]
 have HN : Unt.named ⟨12, d, a, b, l⟩ = [a, b] := by simp [Unt.named]
 unfold NamedPost
 rw [HG, HN]
 have HV := Lib.hid hv
 have HA := Lib.hid ha
 have HB := Lib.hid hb
 obtain ⟨hlen, hcap, hmax⟩ := hv.lens
 have HL := Lib.hid hlen
 have hmx' : len ≤ 1000000 := by omega
 clear HG HN hv ha hb hlen
 go_enter Tryz.func19, Tryz.ntmps19
 go_wp2_with fail
 go_ret2
 exact ⟨_, rfl, intsNew (B := ((w.alloc (.cells #[.int .i64 12, .int .i64 d, .int .i64 a, .int .i64 b, .slice o len cap] 34)).alloc (.cells #[.int .i64 a, .int .i64 b] 3)).heap.size) (by simp) (by simp) 3 [a, b] (by simp [HA.out, HB.out]) 2 rfl (by omega), (Below.one _ _).trans ((Below.one _ _).mono (by simp))⟩
theorem named_13 (d a b : Int) (l : List Int) (o : Option Addr) (len cap : Nat) (B : Nat) (w : World) (ha : I64 a) (hb : I64 b) (hv : SlC w B 1 IntR l (.slice o len cap)) (_hB : B ≤ w.heap.size) (hmx : l.length ≤ 1000000) :
  Calls Tryz.prog 19 #[.agg #[.int .i64 13, .int .i64 d, .int .i64 a, .int .i64 b, .slice o len cap]] w (NamedPost ⟨13, d, a, b, l⟩ w) := by
 have HG : Unt.gives ⟨13, d, a, b, l⟩ = -1 := by simp [Unt.gives]
 have HN : Unt.named ⟨13, d, a, b, l⟩ = [a, b] := by simp [Unt.named]
 unfold NamedPost
 rw [HG, HN]
 have HV := Lib.hid hv
 have HA := Lib.hid ha
 have HB := Lib.hid hb
 obtain ⟨hlen, hcap, hmax⟩ := hv.lens
 have HL := Lib.hid hlen
 have hmx' : len ≤ 1000000 := by omega
 clear HG HN hv ha hb hlen
 go_enter Tryz.func19, Tryz.ntmps19
 go_wp2_with fail
 go_ret2
 exact ⟨_, rfl, intsNew (B := ((w.alloc (.cells #[.int .i64 13, .int .i64 d, .int .i64 a, .int .i64 b, .slice o len cap] 34)).alloc (.cells #[.int .i64 a, .int .i64 b] 3)).heap.size) (by simp) (by simp) 3 [a, b] (by simp [HA.out, HB.out]) 2 rfl (by omega), (Below.one _ _).trans ((Below.one _ _).mono (by simp))⟩
theorem named_14 (d a b : Int) (l : List Int) (o : Option Addr) (len cap : Nat) (B : Nat) (w : World) (ha : I64 a) (hb : I64 b) (hv : SlC w B 1 IntR l (.slice o len cap)) (_hB : B ≤ w.heap.size) (hmx : l.length ≤ 1000000) :
  Calls Tryz.prog 19 #[.agg #[.int .i64 14, .int .i64 d, .int .i64 a, .int .i64 b, .slice o len cap]] w (NamedPost ⟨14, d, a, b, l⟩ w) := by
 have HG : Unt.gives ⟨14, d, a, b, l⟩ = d := by simp [Unt.gives]
 have HN : Unt.named ⟨14, d, a, b, l⟩ = [a] := by simp [Unt.named]
 unfold NamedPost
 rw [HG, HN]
 have HV := Lib.hid hv
 have HA := Lib.hid ha
 have HB := Lib.hid hb
 obtain ⟨hlen, hcap, hmax⟩ := hv.lens
 have HL := Lib.hid hlen
 have hmx' : len ≤ 1000000 := by omega
 clear HG HN hv ha hb hlen
 go_enter Tryz.func19, Tryz.ntmps19
 go_wp2_with fail
 go_ret2
 exact ⟨_, rfl, intsNew (B := ((w.alloc (.cells #[.int .i64 14, .int .i64 d, .int .i64 a, .int .i64 b, .slice o len cap] 34)).alloc (.cells #[.int .i64 a] 3)).heap.size) (by simp) (by simp) 3 [a] (by simp [HA.out]) 1 rfl (by omega), (Below.one _ _).trans ((Below.one _ _).mono (by simp))⟩
theorem named_15 (d a b : Int) (l : List Int) (o : Option Addr) (len cap : Nat) (B : Nat) (w : World) (ha : I64 a) (hb : I64 b) (hv : SlC w B 1 IntR l (.slice o len cap)) (_hB : B ≤ w.heap.size) (hmx : l.length ≤ 1000000) :
  Calls Tryz.prog 19 #[.agg #[.int .i64 15, .int .i64 d, .int .i64 a, .int .i64 b, .slice o len cap]] w (NamedPost ⟨15, d, a, b, l⟩ w) := by
 have HG : Unt.gives ⟨15, d, a, b, l⟩ = -1 := by simp [Unt.gives]
 have HN : Unt.named ⟨15, d, a, b, l⟩ = [] := by simp [Unt.named]
 unfold NamedPost
 rw [HG, HN]
 have HV := Lib.hid hv
 have HA := Lib.hid ha
 have HB := Lib.hid hb
 obtain ⟨hlen, hcap, hmax⟩ := hv.lens
 have HL := Lib.hid hlen
 have hmx' : len ≤ 1000000 := by omega
 clear HG HN hv ha hb hlen
 go_enter Tryz.func19, Tryz.ntmps19
 go_wp2_with fail
 go_ret2
 exact ⟨_, rfl, ⟨none, 0, 0, rfl, rfl, by omega, by omega, rfl, rfl⟩, Below.one _ _⟩
theorem named_16 (d a b : Int) (l : List Int) (o : Option Addr) (len cap : Nat) (B : Nat) (w : World) (ha : I64 a) (hb : I64 b) (hv : SlC w B 1 IntR l (.slice o len cap)) (_hB : B ≤ w.heap.size) (hmx : l.length ≤ 1000000) :
  Calls Tryz.prog 19 #[.agg #[.int .i64 16, .int .i64 d, .int .i64 a, .int .i64 b, .slice o len cap]] w (NamedPost ⟨16, d, a, b, l⟩ w) := by
 have HG : Unt.gives ⟨16, d, a, b, l⟩ = -1 := by simp [Unt.gives]
 have HN : Unt.named ⟨16, d, a, b, l⟩ = [a] := by simp [Unt.named]
 unfold NamedPost
 rw [HG, HN]
 have HV := Lib.hid hv
 have HA := Lib.hid ha
 have HB := Lib.hid hb
 obtain ⟨hlen, hcap, hmax⟩ := hv.lens
 have HL := Lib.hid hlen
 have hmx' : len ≤ 1000000 := by omega
 clear HG HN hv ha hb hlen
 go_enter Tryz.func19, Tryz.ntmps19
 go_wp2_with fail
 go_ret2
 exact ⟨_, rfl, intsNew (B := ((w.alloc (.cells #[.int .i64 16, .int .i64 d, .int .i64 a, .int .i64 b, .slice o len cap] 34)).alloc (.cells #[.int .i64 a] 3)).heap.size) (by simp) (by simp) 3 [a] (by simp [HA.out]) 1 rfl (by omega), (Below.one _ _).trans ((Below.one _ _).mono (by simp))⟩
theorem named_17 (d a b : Int) (l : List Int) (o : Option Addr) (len cap : Nat) (B : Nat) (w : World) (ha : I64 a) (hb : I64 b) (hv : SlC w B 1 IntR l (.slice o len cap)) (hB : B ≤ w.heap.size) (hmx : l.length ≤ 1000000) :
  Calls Tryz.prog 19 #[.agg #[.int .i64 17, .int .i64 d, .int .i64 a, .int .i64 b, .slice o len cap]] w (NamedPost ⟨17, d, a, b, l⟩ w) := by
 have HG : Unt.gives ⟨17, d, a, b, l⟩ = d := by simp [Unt.gives]
 have HN : Unt.named ⟨17, d, a, b, l⟩ = a :: l := by simp [Unt.named]
 unfold NamedPost
 rw [HG, HN]
 have HV := Lib.hid hv
 have HA := Lib.hid ha
 have HB := Lib.hid hb
 obtain ⟨hlen, hcap, hmax⟩ := hv.lens
 have HL := Lib.hid hlen
 have hmx' : len ≤ 1000000 := by omega
 clear HG HN hv ha hb hlen
 go_enter Tryz.func19, Tryz.ntmps19
 have HO := Lib.hid (ownsRow_new (W := (w.alloc (.cells #[.int .i64 17, .int .i64 d, .int .i64 a, .int .i64 b, .slice o len cap] 34))) (b := w.heap.size + 1) (base := w.heap.size) (by simp) (by omega) 3 1 1 [.int .i64 a] rfl (by unfold maxLen; omega))
 have HS := Lib.hid (show SlC ((w.alloc (.cells #[.int .i64 17, .int .i64 d, .int .i64 a, .int .i64 b, .slice o len cap] 34)).alloc (.cells [.int .i64 a].toArray 3)) B 1 IntR l (.slice o len cap) from HV.out.kept (((Below.one w _).trans ((Below.one _ _).mono (by simp))).mono hB) fun _ _ _ h => h)
 go_wp2_with (at_builtin; refine wpList_append_ints rfl (.tmp 36) (.tmp 38) rfl w.heap.size B (.slice (some ⟨w.heap.size + 1, 0, none⟩) 1 1) [a] l rfl HO.out o len cap rfl HS.out (by have := HL.out; simp; omega) (by simp; omega) ?_)
 intro v' w2 hown hgrow
 have HR := Lib.hid hown
 have HBE := Lib.hid (show Below w.heap.size w w2 from ((Below.one w _).trans ((Below.one _ _).mono (by simp))).grown hgrow (by simp; omega) (fun g hg => by simp [Value.ownBlock] at hg; omega))
 have bx : BoxL w2 w.heap.size 34 [.int .i64 17, .int .i64 d, .int .i64 a, .int .i64 b, .slice o len cap] := (hgrow.block _ (by simp; omega) (by simp [Value.ownBlock])).trans ((BoxL.new rfl _ _).alloc _)
 have x0 := bx.cell 0 rfl
 have x1 := bx.cell 1 rfl
 clear hown hgrow bx
 go_wp2_with fail
 go_ret2
 exact ⟨_, rfl, rowInts (l := [a] ++ l) HR.out (by intro x hx; rcases List.mem_cons.1 hx with rfl | h; exact HA.out; exact HV.out.i64 x h), HBE.out⟩
theorem named_18 (d a b : Int) (l : List Int) (o : Option Addr) (len cap : Nat) (B : Nat) (w : World) (ha : I64 a) (hb : I64 b) (hv : SlC w B 1 IntR l (.slice o len cap)) (hB : B ≤ w.heap.size) (hmx : l.length ≤ 1000000) :
  Calls Tryz.prog 19 #[.agg #[.int .i64 18, .int .i64 d, .int .i64 a, .int .i64 b, .slice o len cap]] w (NamedPost ⟨18, d, a, b, l⟩ w) := by
 have HG : Unt.gives ⟨18, d, a, b, l⟩ = d := by simp [Unt.gives]
 have HN : Unt.named ⟨18, d, a, b, l⟩ = b :: l := by simp [Unt.named]
 unfold NamedPost
 rw [HG, HN]
 have HV := Lib.hid hv
 have HA := Lib.hid ha
 have HB := Lib.hid hb
 obtain ⟨hlen, hcap, hmax⟩ := hv.lens
 have HL := Lib.hid hlen
 have hmx' : len ≤ 1000000 := by omega
 clear HG HN hv ha hb hlen
 go_enter Tryz.func19, Tryz.ntmps19
 have HO := Lib.hid (ownsRow_new (W := (w.alloc (.cells #[.int .i64 18, .int .i64 d, .int .i64 a, .int .i64 b, .slice o len cap] 34))) (b := w.heap.size + 1) (base := w.heap.size) (by simp) (by omega) 3 1 1 [.int .i64 b] rfl (by unfold maxLen; omega))
 have HS := Lib.hid (show SlC ((w.alloc (.cells #[.int .i64 18, .int .i64 d, .int .i64 a, .int .i64 b, .slice o len cap] 34)).alloc (.cells [.int .i64 b].toArray 3)) B 1 IntR l (.slice o len cap) from HV.out.kept (((Below.one w _).trans ((Below.one _ _).mono (by simp))).mono hB) fun _ _ _ h => h)
 go_wp2_with (at_builtin; refine wpList_append_ints rfl (.tmp 45) (.tmp 47) rfl w.heap.size B (.slice (some ⟨w.heap.size + 1, 0, none⟩) 1 1) [b] l rfl HO.out o len cap rfl HS.out (by have := HL.out; simp; omega) (by simp; omega) ?_)
 intro v' w2 hown hgrow
 have HR := Lib.hid hown
 have HBE := Lib.hid (show Below w.heap.size w w2 from ((Below.one w _).trans ((Below.one _ _).mono (by simp))).grown hgrow (by simp; omega) (fun g hg => by simp [Value.ownBlock] at hg; omega))
 have bx : BoxL w2 w.heap.size 34 [.int .i64 18, .int .i64 d, .int .i64 a, .int .i64 b, .slice o len cap] := (hgrow.block _ (by simp; omega) (by simp [Value.ownBlock])).trans ((BoxL.new rfl _ _).alloc _)
 have x0 := bx.cell 0 rfl
 have x1 := bx.cell 1 rfl
 clear hown hgrow bx
 go_wp2_with fail
 go_ret2
 exact ⟨_, rfl, rowInts (l := [b] ++ l) HR.out (by intro x hx; rcases List.mem_cons.1 hx with rfl | h; exact HB.out; exact HV.out.i64 x h), HBE.out⟩
theorem named_19 (d a b : Int) (l : List Int) (o : Option Addr) (len cap : Nat) (B : Nat) (w : World) (ha : I64 a) (hb : I64 b) (hv : SlC w B 1 IntR l (.slice o len cap)) (hB : B ≤ w.heap.size) (hmx : l.length ≤ 1000000) :
  Calls Tryz.prog 19 #[.agg #[.int .i64 19, .int .i64 d, .int .i64 a, .int .i64 b, .slice o len cap]] w (NamedPost ⟨19, d, a, b, l⟩ w) := by
 have HG : Unt.gives ⟨19, d, a, b, l⟩ = -1 := by simp [Unt.gives]
 have HN : Unt.named ⟨19, d, a, b, l⟩ = a :: l := by simp [Unt.named]
 unfold NamedPost
 rw [HG, HN]
 have HV := Lib.hid hv
 have HA := Lib.hid ha
 have HB := Lib.hid hb
 obtain ⟨hlen, hcap, hmax⟩ := hv.lens
 have HL := Lib.hid hlen
 have hmx' : len ≤ 1000000 := by omega
 clear HG HN hv ha hb hlen
 go_enter Tryz.func19, Tryz.ntmps19
 have HO := Lib.hid (ownsRow_new (W := (w.alloc (.cells #[.int .i64 19, .int .i64 d, .int .i64 a, .int .i64 b, .slice o len cap] 34))) (b := w.heap.size + 1) (base := w.heap.size) (by simp) (by omega) 3 1 1 [.int .i64 a] rfl (by unfold maxLen; omega))
 have HS := Lib.hid (show SlC ((w.alloc (.cells #[.int .i64 19, .int .i64 d, .int .i64 a, .int .i64 b, .slice o len cap] 34)).alloc (.cells [.int .i64 a].toArray 3)) B 1 IntR l (.slice o len cap) from HV.out.kept (((Below.one w _).trans ((Below.one _ _).mono (by simp))).mono hB) fun _ _ _ h => h)
 go_wp2_with (at_builtin; refine wpList_append_ints rfl (.tmp 36) (.tmp 38) rfl w.heap.size B (.slice (some ⟨w.heap.size + 1, 0, none⟩) 1 1) [a] l rfl HO.out o len cap rfl HS.out (by have := HL.out; simp; omega) (by simp; omega) ?_)
 intro v' w2 hown hgrow
 have HR := Lib.hid hown
 have HBE := Lib.hid (show Below w.heap.size w w2 from ((Below.one w _).trans ((Below.one _ _).mono (by simp))).grown hgrow (by simp; omega) (fun g hg => by simp [Value.ownBlock] at hg; omega))
 have bx : BoxL w2 w.heap.size 34 [.int .i64 19, .int .i64 d, .int .i64 a, .int .i64 b, .slice o len cap] := (hgrow.block _ (by simp; omega) (by simp [Value.ownBlock])).trans ((BoxL.new rfl _ _).alloc _)
 have x0 := bx.cell 0 rfl
 have x1 := bx.cell 1 rfl
 clear hown hgrow bx
 go_wp2_with fail
 go_ret2
 exact ⟨_, rfl, rowInts (l := [a] ++ l) HR.out (by intro x hx; rcases List.mem_cons.1 hx with rfl | h; exact HA.out; exact HV.out.i64 x h), HBE.out⟩
theorem named_20 (d a b : Int) (l : List Int) (o : Option Addr) (len cap : Nat) (B : Nat) (w : World) (ha : I64 a) (hb : I64 b) (hv : SlC w B 1 IntR l (.slice o len cap)) (hB : B ≤ w.heap.size) (hmx : l.length ≤ 1000000) :
  Calls Tryz.prog 19 #[.agg #[.int .i64 20, .int .i64 d, .int .i64 a, .int .i64 b, .slice o len cap]] w (NamedPost ⟨20, d, a, b, l⟩ w) := by
 have HG : Unt.gives ⟨20, d, a, b, l⟩ = -1 := by simp [Unt.gives]
 have HN : Unt.named ⟨20, d, a, b, l⟩ = b :: l := by simp [Unt.named]
 unfold NamedPost
 rw [HG, HN]
 have HV := Lib.hid hv
 have HA := Lib.hid ha
 have HB := Lib.hid hb
 obtain ⟨hlen, hcap, hmax⟩ := hv.lens
 have HL := Lib.hid hlen
 have hmx' : len ≤ 1000000 := by omega
 clear HG HN hv ha hb hlen
 go_enter Tryz.func19, Tryz.ntmps19
 have HO := Lib.hid (ownsRow_new (W := (w.alloc (.cells #[.int .i64 20, .int .i64 d, .int .i64 a, .int .i64 b, .slice o len cap] 34))) (b := w.heap.size + 1) (base := w.heap.size) (by simp) (by omega) 3 1 1 [.int .i64 b] rfl (by unfold maxLen; omega))
 have HS := Lib.hid (show SlC ((w.alloc (.cells #[.int .i64 20, .int .i64 d, .int .i64 a, .int .i64 b, .slice o len cap] 34)).alloc (.cells [.int .i64 b].toArray 3)) B 1 IntR l (.slice o len cap) from HV.out.kept (((Below.one w _).trans ((Below.one _ _).mono (by simp))).mono hB) fun _ _ _ h => h)
 go_wp2_with (at_builtin; refine wpList_append_ints rfl (.tmp 45) (.tmp 47) rfl w.heap.size B (.slice (some ⟨w.heap.size + 1, 0, none⟩) 1 1) [b] l rfl HO.out o len cap rfl HS.out (by have := HL.out; simp; omega) (by simp; omega) ?_)
 intro v' w2 hown hgrow
 have HR := Lib.hid hown
 have HBE := Lib.hid (show Below w.heap.size w w2 from ((Below.one w _).trans ((Below.one _ _).mono (by simp))).grown hgrow (by simp; omega) (fun g hg => by simp [Value.ownBlock] at hg; omega))
 have bx : BoxL w2 w.heap.size 34 [.int .i64 20, .int .i64 d, .int .i64 a, .int .i64 b, .slice o len cap] := (hgrow.block _ (by simp; omega) (by simp [Value.ownBlock])).trans ((BoxL.new rfl _ _).alloc _)
 have x0 := bx.cell 0 rfl
 have x1 := bx.cell 1 rfl
 clear hown hgrow bx
 go_wp2_with fail
 go_ret2
 exact ⟨_, rfl, rowInts (l := [b] ++ l) HR.out (by intro x hx; rcases List.mem_cons.1 hx with rfl | h; exact HB.out; exact HV.out.i64 x h), HBE.out⟩
theorem named_21 (d a b : Int) (l : List Int) (o : Option Addr) (len cap : Nat) (B : Nat) (w : World) (ha : I64 a) (hb : I64 b) (hv : SlC w B 1 IntR l (.slice o len cap)) (hB : B ≤ w.heap.size) (hmx : l.length ≤ 1000000) :
  Calls Tryz.prog 19 #[.agg #[.int .i64 21, .int .i64 d, .int .i64 a, .int .i64 b, .slice o len cap]] w (NamedPost ⟨21, d, a, b, l⟩ w) := by
 have HG : Unt.gives ⟨21, d, a, b, l⟩ = -1 := by simp [Unt.gives]
 have HN : Unt.named ⟨21, d, a, b, l⟩ = l := by simp [Unt.named]
 unfold NamedPost
 rw [HG, HN]
 have HV := Lib.hid hv
 have HA := Lib.hid ha
 have HB := Lib.hid hb
 obtain ⟨hlen, hcap, hmax⟩ := hv.lens
 have HL := Lib.hid hlen
 have hmx' : len ≤ 1000000 := by omega
 clear HG HN hv ha hb hlen
 go_enter Tryz.func19, Tryz.ntmps19
 go_wp2_with fail
 go_ret2
 exact ⟨_, rfl, (HV.out.kept ((Below.one w _).mono hB) fun _ _ _ h => h).wider (by simp; omega), Below.one _ _⟩
theorem named_22 (d a b : Int) (l : List Int) (o : Option Addr) (len cap : Nat) (B : Nat) (w : World) (ha : I64 a) (hb : I64 b) (hv : SlC w B 1 IntR l (.slice o len cap)) (_hB : B ≤ w.heap.size) (hmx : l.length ≤ 1000000) :
  Calls Tryz.prog 19 #[.agg #[.int .i64 22, .int .i64 d, .int .i64 a, .int .i64 b, .slice o len cap]] w (NamedPost ⟨22, d, a, b, l⟩ w) := by
 have HG : Unt.gives ⟨22, d, a, b, l⟩ = -1 := by simp [Unt.gives]
 have HN : Unt.named ⟨22, d, a, b, l⟩ = [a] := by simp [Unt.named]
 unfold NamedPost
 rw [HG, HN]
 have HV := Lib.hid hv
 have HA := Lib.hid ha
 have HB := Lib.hid hb
 obtain ⟨hlen, hcap, hmax⟩ := hv.lens
 have HL := Lib.hid hlen
 have hmx' : len ≤ 1000000 := by omega
 clear HG HN hv ha hb hlen
 go_enter Tryz.func19, Tryz.ntmps19
 go_wp2_with fail
 go_ret2
 exact ⟨_, rfl, intsNew (B := ((w.alloc (.cells #[.int .i64 22, .int .i64 d, .int .i64 a, .int .i64 b, .slice o len cap] 34)).alloc (.cells #[.int .i64 a] 3)).heap.size) (by simp) (by simp) 3 [a] (by simp [HA.out]) 1 rfl (by omega), (Below.one _ _).trans ((Below.one _ _).mono (by simp))⟩
theorem named_any (x : Ins) (c0 c1 c2 c3 c4 : Value) (B : Nat) (w : World) (hx : InsR w B x [c0, c1, c2, c3, c4]) (hB : B ≤ w.heap.size) (hmx : x.l.length ≤ 1000000) (h0 : 0 ≤ x.op) (h1 : x.op ≤ 22) :
  Calls Tryz.prog 19 #[.agg #[c0, c1, c2, c3, c4]] w (NamedPost x w) := by
 obtain ⟨op, d, a, b, l⟩ := x
 obtain ⟨sl, he, _, _, ha, hb, hv⟩ := hx
 simp only [List.cons.injEq, and_true] at he
 obtain ⟨rfl, rfl, rfl, rfl, rfl⟩ := he
 obtain ⟨o, len, cap, rfl⟩ := hv.form
 dsimp only at ha hb hv hmx h0 h1
 obtain ⟨n, rfl⟩ : ∃ n : Nat, op = n := ⟨op.toNat, by omega⟩
 have hn : n ≤ 22 := by omega
 clear h0 h1
 match n, hn with
 | 0, _ => exact named_0 d a b l o len cap B w ha hb hv hB hmx
 | 1, _ => exact named_1 d a b l o len cap B w ha hb hv hB hmx
 | 2, _ => exact named_2 d a b l o len cap B w ha hb hv hB hmx
 | 3, _ => exact named_3 d a b l o len cap B w ha hb hv hB hmx
 | 4, _ => exact named_4 d a b l o len cap B w ha hb hv hB hmx
 | 5, _ => exact named_5 d a b l o len cap B w ha hb hv hB hmx
 | 6, _ => exact named_6 d a b l o len cap B w ha hb hv hB hmx
 | 7, _ => exact named_7 d a b l o len cap B w ha hb hv hB hmx
 | 8, _ => exact named_8 d a b l o len cap B w ha hb hv hB hmx
 | 9, _ => exact named_9 d a b l o len cap B w ha hb hv hB hmx
 | 10, _ => exact named_10 d a b l o len cap B w ha hb hv hB hmx
 | 11, _ => exact named_11 d a b l o len cap B w ha hb hv hB hmx
 | 12, _ => exact named_12 d a b l o len cap B w ha hb hv hB hmx
 | 13, _ => exact named_13 d a b l o len cap B w ha hb hv hB hmx
 | 14, _ => exact named_14 d a b l o len cap B w ha hb hv hB hmx
 | 15, _ => exact named_15 d a b l o len cap B w ha hb hv hB hmx
 | 16, _ => exact named_16 d a b l o len cap B w ha hb hv hB hmx
 | 17, _ => exact named_17 d a b l o len cap B w ha hb hv hB hmx
 | 18, _ => exact named_18 d a b l o len cap B w ha hb hv hB hmx
 | 19, _ => exact named_19 d a b l o len cap B w ha hb hv hB hmx
 | 20, _ => exact named_20 d a b l o len cap B w ha hb hv hB hmx
 | 21, _ => exact named_21 d a b l o len cap B w ha hb hv hB hmx
 | 22, _ => exact named_22 d a b l o len cap B w ha hb hv hB hmx
 | n + 23, h => omega
end
section
open Go Go.RowKit Go.Deep Go.ChangeShapes Go.WideShapes Go.ChangeAt
structure Cod where
 v : List Int
 rest : Bool
 body : Trm
structure Mdl where
 consts : List Dat
 codes : List Cod
 body : Trm
def CodR (w : World) (B : Nat) (c : Cod) (cs : List Value) : Prop := ∃ vs b0 b1 b2 b3, cs = [vs, .bool c.rest, b0, b1, b2, b3] ∧ SlC w B 1 IntR c.v vs ∧ TrmR w B c.body [b0, b1, b2, b3]
def MdlR (w : World) (B : Nat) (m : Mdl) (v : Value) : Prop := ∃ c p b0 b1 b2 b3, v = .agg #[c, p, b0, b1, b2, b3] ∧ RepS w B m.consts c ∧ SlC w B 6 (CodR w B) m.codes p ∧ TrmR w B m.body [b0, b1, b2, b3]
theorem CodR.kept {w w' : World} {B : Nat} {c : Cod} {cs : List Value} (h : CodR w B c cs) (hb : Below B w w') : CodR w' B c cs := by
 obtain ⟨vs, b0, b1, b2, b3, rfl, h1, h2⟩ := h
 exact ⟨vs, b0, b1, b2, b3, rfl, h1.kept hb fun _ _ _ h => h, TrmR.kept hb _ _ h2⟩
theorem MdlR.kept {w w' : World} {B : Nat} {m : Mdl} {v : Value} (h : MdlR w B m v) (hb : Below B w w') : MdlR w' B m v := by
 obtain ⟨c, p, b0, b1, b2, b3, rfl, h1, h2, h3⟩ := h
 exact ⟨c, p, b0, b1, b2, b3, rfl, h1.kept hb, h2.kept hb fun _ _ _ h => CodR.kept h hb, TrmR.kept hb _ _ h3⟩
section
variable {H : Type} {enc : TypeId × Value → H}
end
end
end Go.Proofs.YtigkhmppnnljiaaGreatDoor

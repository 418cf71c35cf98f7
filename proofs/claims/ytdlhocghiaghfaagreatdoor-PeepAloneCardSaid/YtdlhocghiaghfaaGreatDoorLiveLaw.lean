/-
  Which registers are needed (chapter 16), in plain Lean.
-/
import Derived.Test.YtdlhocghiaghfaaGreatDoorPeepLaw
namespace Go.Proofs.YtdlhocghiaghfaaGreatDoor
namespace Live
open Unt Peep
/-- From a place on a register is used ahead of getting a value. -/
inductive Need (code : List Ins) (r : Int) : Nat → Prop
  | use {k : Nat} {x : Ins} : code[k]? = some x → r ∈ named x → Need code r k
  | on {k j : Nat} {x : Ins} : code[k]? = some x → gives x ≠ r → j ∈ succs x k → Need code r j → Need code r k
theorem need_iff {code : List Ins} {r : Int} {k : Nat} {x : Ins} (hx : code[k]? = some x) : Need code r k ↔ r ∈ named x ∨ (gives x ≠ r ∧ ∃ j ∈ succs x k, Need code r j) := by
  constructor
  · intro h
    cases h with
    | use hx' hr => obtain rfl := Option.some.inj (hx.symm.trans hx'); exact .inl hr
    | on hx' hg hj hn => obtain rfl := Option.some.inj (hx.symm.trans hx'); exact .inr ⟨hg, _, hj, hn⟩
  · rintro (h | ⟨hg, j, hj, hn⟩)
    · exact .use hx h
    · exact .on hx hg hj hn
/-- What is closed backwards holds all places at which it is needed. -/
theorem Need.sub {code : List Ins} {r : Int} {S : Nat → Prop} (hu : ∀ (k : Nat) (x : Ins), code[k]? = some x → r ∈ named x → S k) (hs : ∀ (k : Nat) (x : Ins), code[k]? = some x → gives x ≠ r → ∀ j ∈ succs x k, S j → S k) : ∀ {k : Nat}, Need code r k → S k
  | _, .use hx hr => hu _ _ hx hr
  | _, .on hx hg hj hn => hs _ _ hx hg _ hj (hn.sub hu hs)
/-- Needed registers are named somewhere. -/
theorem Need.named {code : List Ins} {r : Int} {k : Nat} (h : Need code r k) : ∃ x ∈ code, r ∈ Unt.named x :=
  h.sub (S := fun _ => ∃ x ∈ code, r ∈ Unt.named x) (fun _ _ hx hr => ⟨_, List.mem_of_getElem? hx, hr⟩) (fun _ _ _ _ _ _ h => h)
theorem Need.lt {code : List Ins} {r : Int} {k : Nat} (h : Need code r k) : k < code.length := by
  cases h with
  | use hx _ => exact (List.getElem?_eq_some_iff.1 hx).1
  | on hx _ _ _ => exact (List.getElem?_eq_some_iff.1 hx).1
/-- More uses, the same else: nothing that was needed is not. -/
theorem Need.more {code code' : List Ins} {r : Int} (hc : ∀ (k : Nat) (x : Ins), code[k]? = some x → ∃ x', code'[k]? = some x' ∧ gives x' = gives x ∧ succs x' k = succs x k ∧ ∀ r ∈ Unt.named x, r ∈ Unt.named x') {k : Nat} (h : Need code r k) : Need code' r k :=
  h.sub (S := fun k => Need code' r k)
    (fun k x hx hr => by obtain ⟨x', hx', _, _, hn⟩ := hc k x hx; exact .use hx' (hn r hr))
    (fun k x hx hg j hj hS => by obtain ⟨x', hx', hg', hs', _⟩ := hc k x hx; exact .on hx' (by rw [hg']; exact hg) (by rw [hs']; exact hj) hS)
open Classical in
/-- The registers that are needed from one of some places on, rising. -/
noncomputable def live (code : List Ins) (regs : Nat) (from' : List Nat) : List Int := ((List.range regs).filter fun (r : Nat) => decide (∃ j ∈ from', Need code (r : Int) j)).map fun (r : Nat) => (r : Int)
theorem mem_live {code : List Ins} {regs : Nat} {from' : List Nat} {r : Int} : r ∈ live code regs from' ↔ (0 ≤ r ∧ r < regs) ∧ ∃ j ∈ from', Need code r j := by
  simp only [live, List.mem_map, List.mem_filter, List.mem_range, decide_eq_true_eq]
  constructor
  · rintro ⟨n, ⟨hn, h⟩, rfl⟩
    exact ⟨by omega, h⟩
  · rintro ⟨⟨h0, h1⟩, h⟩
    obtain ⟨n, rfl⟩ := Int.eq_ofNat_of_zero_le h0
    exact ⟨n, ⟨by omega, h⟩, rfl⟩
/-- The registers that are live behind an instruction. -/
noncomputable def after (code : List Ins) (regs k : Nat) : List Int := live code regs (match code[k]? with | some x => succs x k | none => [])
/-- .. at the beginning. -/
noncomputable def begin' (code : List Ins) (regs : Nat) : List Int := live code regs [0]
end Live
end Go.Proofs.YtdlhocghiaghfaaGreatDoor

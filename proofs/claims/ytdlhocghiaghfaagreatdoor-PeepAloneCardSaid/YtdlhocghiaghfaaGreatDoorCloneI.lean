/-
  slices.Clone of ints.
-/
import Derived.Test.YtdlhocghiaghfaaGreatDoorInts
import Derived.WalkSpells
namespace Go.Proofs.YtdlhocghiaghfaaGreatDoor
open Go.RowKit

set_option maxHeartbeats 1000000 in
set_option maxRecDepth 100000 in
theorem cloneI_any (l : List Int) (v : Value) (B : Nat) (w : World) (hv : SlC w B 1 IntR l v) (hB : B ≤ w.heap.size) (hm : l.length ≤ 1000000) :
    Calls Tryz.prog 75 #[v] w fun e w' => ∃ v', e = .returned v' ∧ w'.ownsRow w.heap.size 3 1 v' l.length (l.map (Value.int .i64)) ∧ (∃ o len cap, v' = .slice o len cap) ∧ Below w.heap.size w w' := by
  obtain ⟨o, len, cap, rfl⟩ := hv.form
  have HV := Lib.hid hv
  obtain ⟨hlen, _, hmax⟩ := hv.lens
  have HL := Lib.hid hlen
  have hm' : len ≤ 1000000 := by omega
  clear hlen
  cases o with
  | none =>
    obtain ⟨o', l', c', he, h1, h2, _, h4⟩ := hv
    simp only [Value.slice.injEq] at he
    obtain ⟨rfl, rfl, rfl⟩ := he
    obtain ⟨rfl, rfl⟩ := h4
    simp at h1
    subst h1
    clear HV HL h2
    have he := fun (w : World) => Lib.run_eql_slice_nil (P := Tryz.prog) w 32 3 none 0 0 0 0 Tryz.underlying32
    go_enter Tryz.func75, Tryz.ntmps75
    go_wp2_with fail
    go_ret
    exact ⟨_, rfl, World.ownsRow_nil _ _ _ _, ⟨_, _, _, rfl⟩, Below.refl _ _⟩
  | some a =>
    have he := fun (w : World) => Lib.run_eql_slice_nil (P := Tryz.prog) w 32 3 (some a) len cap 0 0 Tryz.underlying32
    have HS := Lib.hid (show SlC (w.alloc (.cells [].toArray 3)) B 1 IntR l (.slice (some a) len cap) from HV.out.kept ((Below.one w _).mono hB) fun _ _ _ h => h)
    have HO := Lib.hid (ownsRow_new (W := w) (b := w.heap.size) (base := w.heap.size) rfl (Nat.le_refl _) 3 1 0 [] rfl (by unfold maxLen; omega))
    clear hv
    go_enter Tryz.func75, Tryz.ntmps75
    go_wp2_with (at_builtin; refine wpList_append_ints rfl (.tmp 5) (.tmp 6) rfl w.heap.size B (.slice (some ⟨w.heap.size, 0, none⟩) 0 0) [] l rfl HO.out (some a) len cap rfl HS.out (by simp; omega) (by simp) ?_)
    intro v' w2 hown hgrow
    have HR := Lib.hid (show w2.ownsRow w.heap.size 3 1 v' l.length (l.map (Value.int .i64)) from hown)
    obtain ⟨o', l', c', rfl⟩ : ∃ o' l' c', v' = .slice o' l' c' := by
      rcases hown.2 with ⟨h, _⟩ | ⟨g, cap, cur, h, _⟩
      · exact ⟨_, _, _, h⟩
      · exact ⟨_, _, _, h⟩
    have HB := Lib.hid (show Below w.heap.size w w2 from (Below.one w _).grown hgrow (by simp) (fun g hg => by simp [Value.ownBlock] at hg; omega))
    clear hown hgrow
    go_wp2_with fail
    go_ret
    exact ⟨_, rfl, HR.out, ⟨_, _, _, rfl⟩, HB.out⟩
end Go.Proofs.YtdlhocghiaghfaaGreatDoor

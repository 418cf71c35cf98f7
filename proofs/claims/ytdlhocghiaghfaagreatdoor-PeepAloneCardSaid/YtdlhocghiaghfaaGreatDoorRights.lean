/-
  The contracts of slices.IndexFunc, ContainsFunc over data, for whatever closure meets a contract.
-/
import Derived.Test.YtdlhocghiaghfaaGreatDoorFewAll
import Derived.Laws.EntriesVeiled
import Derived.Test.YtdlhocghiaghfaaGreatDoorBare
namespace Go.Proofs.YtdlhocghiaghfaaGreatDoor
open Go.RowKit

theorem any_take_succ {p : Dat → Bool} {l : List Dat} {j : Nat} {x : Dat} (hx : l[j]? = some x) (h : (l.take j).any p = false) (hp : p x = false) : (l.take (j + 1)).any p = false := by
  rw [List.take_add_one, hx]
  simp [h, hp]

theorem any_true {p : Dat → Bool} {l : List Dat} {j : Nat} {x : Dat} (hx : l[j]? = some x) (hp : p x = true) : l.any p = true :=
  List.any_eq_true.2 ⟨x, List.mem_of_getElem? hx, hp⟩

/-- IndexFunc's answer: not below 0 just if there is one. -/
def IdxPost (b : Bool) (w : World) (e : Ending) (w' : World) : Prop := ∃ r : Int, e = .returned (.int .i64 r) ∧ decide (0 ≤ r) = b ∧ Below w.heap.size w w'

set_option maxHeartbeats 1000000 in
set_option maxRecDepth 100000 in
theorem indexFunc_any (F : FuncId) (caps : Array Value) (p : Dat → Bool) (l : List Dat) (o : Option Addr) (len cap : Nat) (B : Nat) (w : World) (hl : len = l.length) (hcap : len ≤ cap) (hmax : cap ≤ 9223372036854775807)
    (hv : match o with | none => l = [] ∧ cap = 0 | some a => (l ≠ [] → a.spot = none ∧ a.block < B) ∧ RepC w B l a.block a.off) (hB : B ≤ w.heap.size)
    (hF : ∀ (args : Array Value) (w : World), (callFunc F args).run Tryz.prog w = .ok (.enter F args) w)
    (H : ∀ x ∈ l, ∀ v w', RepD w' B x v → Below w.heap.size w w' → Calls Tryz.prog F (#[v] ++ caps) w' fun e w'' => e = .returned (.bool (p x)) ∧ Below w'.heap.size w' w'') :
    Calls Tryz.prog 61 #[.slice o len cap, .func (.func F) #[] caps] w (IdxPost (l.any p) w) := by
  obtain ⟨r, hr⟩ : ∃ r, l.any p = r := ⟨_, rfl⟩
  rw [hr]
  have HR := Lib.hid hr
  have HV := Lib.hid hv
  have HL := Lib.hid hl
  have HH := Lib.hid H
  clear hr hv hl H
  go_enter Tryz.func61, Tryz.ntmps61
  go_wp2
  go_loopw [8] (fun i wr => ∃ (j : Nat), i = .int .i64 j ∧ j ≤ len ∧ (l.take j).any p = false ∧ Below w.heap.size w wr) (fun i _ => len - (intOf i).toNat)
  case atStart => exact ⟨0, rfl, by omega, rfl, Below.refl _ _⟩
  case round =>
    obtain ⟨j, rfl, hj, hany, hb⟩ := hrel
    have HA := Lib.hid hany
    clear hany
    by_cases hjl : j < len
    · obtain ⟨x, hx⟩ : ∃ x, l[j]? = some x := ⟨_, List.getElem?_eq_getElem (by rw [← HL.out]; exact hjl)⟩
      obtain ⟨b, off, k', n', d', s', l', o', len', cap', ho, hxe, e0, e1, e2, e3, e4, er⟩ := part_at2 HV.out (hb.mono hB) hx
      subst ho hxe
      have HC := Lib.hid (HH.out _ (List.mem_of_getElem? hx) _ wr er hb)
      have HX := Lib.hid hx
      clear hx er
      cases hp : p (.mk k' n' d' s' l') with
      | true =>
        rw [hp] at HC
        have HT := Lib.hid (any_true HX.out hp)
        clear hp
        go_wp2_with (first | ((with_reducible refine HC.out.mono ?_); rintro e' w1 ⟨rfl, hb1⟩))
        go_ret
        exact ⟨j, rfl, by rw [← HR.out, HT.out]; simp, Below.next hb hb1⟩
      | false =>
        rw [hp] at HC
        have HT := Lib.hid (any_take_succ HX.out HA.out hp)
        clear hp
        go_wp2_with (first | ((with_reducible refine HC.out.mono ?_); rintro e' w1 ⟨rfl, hb1⟩))
        go_roundw
        case rel => exact ⟨j + 1, by go_num, by omega, HT.out, Below.next hb hb1⟩
        case measure => simp [intOf]; omega
    · have HF := Lib.hid (show l.any p = false by rw [← HA.out, List.take_of_length_le (by rw [← HL.out]; omega)])
      go_wp2
      go_ret
      exact ⟨-1, rfl, by rw [← HR.out, HF.out]; rfl, hb⟩

set_option maxHeartbeats 1000000 in
theorem containsFunc_any (F : FuncId) (caps : Array Value) (p : Dat → Bool) (r : Bool) (l : List Dat) (o : Option Addr) (len cap : Nat) (B : Nat) (w : World) (hl : len = l.length) (hcap : len ≤ cap) (hmax : cap ≤ 9223372036854775807)
    (hv : match o with | none => l = [] ∧ cap = 0 | some a => (l ≠ [] → a.spot = none ∧ a.block < B) ∧ RepC w B l a.block a.off) (hB : B ≤ w.heap.size)
    (hF : ∀ (args : Array Value) (w : World), (callFunc F args).run Tryz.prog w = .ok (.enter F args) w)
    (H : ∀ x ∈ l, ∀ v w', RepD w' B x v → Below w.heap.size w w' → Calls Tryz.prog F (#[v] ++ caps) w' fun e w'' => e = .returned (.bool (p x)) ∧ Below w'.heap.size w' w'') (hr : l.any p = r) :
    Calls Tryz.prog 36 #[.slice o len cap, .func (.func F) #[] caps] w fun e w' => e = .returned (.bool r) ∧ Below w.heap.size w w' := by
  have HI := Lib.hid (indexFunc_any F caps p l o len cap B w hl hcap hmax hv hB hF H)
  rw [hr] at HI
  clear hr hv hl H hF
  go_enter Tryz.func36, Tryz.ntmps36
  go_wp2_with (first | (go_at_call 61; refine HI.out.mono ?_; rintro e' w1 ⟨q, rfl, hq, hb⟩))
  subst hq
  go_ret
  exact ⟨by simp, hb⟩

theorem containsFunc_S (F : FuncId) (caps : Array Value) (p : Dat → Bool) (r : Bool) (l : List Dat) (sl : Value) (B : Nat) (w : World) (hv : RepS w B l sl) (hB : B ≤ w.heap.size)
    (hF : ∀ (args : Array Value) (w : World), (callFunc F args).run Tryz.prog w = .ok (.enter F args) w)
    (H : ∀ x ∈ l, ∀ v w', RepD w' B x v → Below w.heap.size w w' → Calls Tryz.prog F (#[v] ++ caps) w' fun e w'' => e = .returned (.bool (p x)) ∧ Below w'.heap.size w' w'') (hr : l.any p = r) :
    Calls Tryz.prog 36 #[sl, .func (.func F) #[] caps] w fun e w' => e = .returned (.bool r) ∧ Below w.heap.size w w' := by
  obtain ⟨o, len, cap, rfl, hl, hcap, hmax, hv⟩ := hv
  exact containsFunc_any F caps p r l o len cap B w hl hcap hmax hv hB hF H hr
end Go.Proofs.YtdlhocghiaghfaaGreatDoor

namespace Go.Proofs.YtdlhocghiaghfaaGreatDoor
open Go.RowKit

theorem sizeL_step {l : List Dat} {i : Nat} {x : Dat} {deep : Nat} (h : l[i]? = some x) : Dat.sizeL (l.take (i + 1)) deep = Dat.sizeL (l.take i) deep + Dat.size x deep := by
  induction l generalizing i with
  | nil => simp at h
  | cons y l ih =>
    cases i with
    | zero =>
      simp only [List.getElem?_cons_zero, Option.some.injEq] at h
      subst h; simp [Dat.sizeL]
    | succ i =>
      have := ih (i := i) (by simpa using h)
      simp only [List.take_succ_cons, Dat.sizeL, this]; omega

theorem sizeL_le (l : List Dat) (deep : Nat) : Dat.sizeL l deep ≤ Dat.allL l := by
  induction l with
  | nil => simp [Dat.sizeL, Dat.allL]
  | cons x l ih =>
    have := Dat.size_le x deep
    simp only [Dat.sizeL, Dat.allL]; omega

theorem allL_take (l : List Dat) (j : Nat) : Dat.allL (l.take j) ≤ Dat.allL l := by
  have h := Dat.allL_append (l.take j) (l.drop j)
  rw [List.take_append_drop] at h
  omega

theorem heap_alloc_size (w : World) (A : Obj) : (w.alloc A).heap.size = w.heap.size + 1 := by simp

theorem box_cell2 (w : World) (A : Obj) (cs : Array Value) (t : TypeId) (i : Nat) {v : Value} (h : cs[i]? = some v) : ((w.alloc A).alloc (.cells cs t)).cell? ⟨w.heap.size + 1, i, none⟩ = some v := by
  have := box_cell (w.alloc A) cs t i h
  rw [heap_alloc_size] at this
  exact this

end Go.Proofs.YtdlhocghiaghfaaGreatDoor

namespace Go.Proofs.YtdlhocghiaghfaaGreatDoor
open Go.RowKit

/-- datum.bare, in one: a datum's head is right just if bare says so and gives back the same. -/
theorem bare_any (k n d : Int) (s : ByteArray) (o : Option Addr) (len cap : Nat) (hn : -9223372036854775808 ≤ n ∧ n ≤ 9223372036854775807) (hd : -9223372036854775808 ≤ d ∧ d ≤ 9223372036854775807) (hs : s.size ≤ 140737488351232) :
    ∃ (k' n' d' : Int) (s' : ByteArray) (o' : Option Addr) (len' cap' : Nat) (b : Bool), (∀ w, Calls Tryz.prog 63 #[.agg #[.int .i64 k, .int .i64 n, .int .i64 d, .string s, .slice o len cap]] w fun e w' => e = .returned (.tuple #[.agg #[.int .i64 k', .int .i64 n', .int .i64 d', .string s', .slice o' len' cap'], .bool b]) ∧ Below w.heap.size w w') ∧
      Dat.head k n d s.data.toList len = (b && (decide (n' = n) && (decide (d' = d) && (decide (s' = s) && decide (len' = len))))) := by
  have hz : ∀ m : Int, decide (0 = m) = decide (m = 0) := fun m => by rw [Bool.eq_iff_iff]; simp only [decide_eq_true_eq]; exact eq_comm
  have hzl : ∀ m : Nat, decide (0 = m) = decide (m = 0) := fun m => by rw [Bool.eq_iff_iff]; simp only [decide_eq_true_eq]; exact eq_comm
  have he : decide ((⟨#[]⟩ : ByteArray) = s) = s.data.toList.isEmpty := by
    rw [Bool.eq_iff_iff]
    simp only [decide_eq_true_eq, List.isEmpty_iff]
    constructor
    · rintro rfl; rfl
    · intro h; apply ByteArray.ext; apply Array.ext'; rw [h]
  by_cases k0 : k = 0
  · subst k0
    exact ⟨_, _, _, _, _, _, _, _, fun w => bare_0 n d s o len cap hn.1 hn.2 hd.1 hd.2 w, by rw [Dat.head, if_pos rfl, he, hzl]; simp⟩
  by_cases k1 : k = 1
  · subst k1
    have hh : Dat.head 1 n d s.data.toList len = (decide (n = 0 ∨ n = 1) && (decide (n = n) && (decide (0 = d) && (decide ((⟨#[]⟩ : ByteArray) = s) && decide (0 = len))))) := by
      rw [Dat.head, if_neg (by omega), if_pos rfl, he, hzl, hz]; simp only [decide_true, Bool.true_and]; rw [← Bool.and_assoc, Bool.and_comm (decide (d = 0)), Bool.and_assoc]
    by_cases n0 : n = 0
    · exact ⟨_, _, _, _, _, _, _, _, fun w => bare_1a n d s o len cap (by simp [n0]) w, by rw [hh, decide_eq_true (Or.inl n0)]⟩
    by_cases n1 : n = 1
    · exact ⟨_, _, _, _, _, _, _, _, fun w => bare_1b n d s o len cap (by simp [n0]) (by simp [n1]) w, by rw [hh, decide_eq_true (Or.inr n1)]⟩
    · exact ⟨_, _, _, _, _, _, _, _, fun w => bare_1c n d s o len cap (by simp [n0]) (by simp [n1]) w, by rw [hh, decide_eq_false (by omega : ¬ (n = 0 ∨ n = 1))]⟩
  have flip : ∀ a b c e : Bool, (a && (b && (c && e))) = (c && (b && (a && (true && e)))) := by decide
  by_cases k2 : k = 2
  · subst k2
    exact ⟨_, _, _, _, _, _, _, _, fun w => bare_2 n d s o len cap hs w, by rw [Dat.head, if_neg (by omega), if_neg (by omega), if_pos rfl, hz, hz, hzl, decide_eq_true (rfl : s = s)]; exact flip _ _ _ _⟩
  by_cases k3 : k = 3
  · subst k3
    exact ⟨_, _, _, _, _, _, _, _, fun w => bare_3 n d s o len cap hs w, by rw [Dat.head, if_neg (by omega), if_neg (by omega), if_neg (by omega), if_pos rfl, hz, hz, hzl, decide_eq_true (rfl : s = s)]; exact flip _ _ _ _⟩
  have flip2 : ∀ a b c e : Bool, (a && (b && (c && e))) = (true && (b && (a && (c && e)))) := by decide
  by_cases k4 : k = 4
  · subst k4
    exact ⟨_, _, _, _, _, _, _, _, fun w => bare_4 n d s o len cap w, by rw [Dat.head, if_neg (by omega), if_neg (by omega), if_neg (by omega), if_neg (by omega), if_pos (by omega), hz, hz, hzl, he]; exact flip2 _ _ _ _⟩
  by_cases k5 : k = 5
  · subst k5
    exact ⟨_, _, _, _, _, _, _, _, fun w => bare_5 n d s o len cap w, by rw [Dat.head, if_neg (by omega), if_neg (by omega), if_neg (by omega), if_neg (by omega), if_pos (by omega), hz, hz, hzl, he]; exact flip2 _ _ _ _⟩
  have flip3 : ∀ a b c e : Bool, (a && (b && (c && e))) = (e && (b && (a && (c && true)))) := by decide
  by_cases k6 : k = 6
  · subst k6
    have hh : Dat.head 6 n d s.data.toList len = (decide (len = 2) && (decide (0 = n) && (decide (0 = d) && (decide ((⟨#[]⟩ : ByteArray) = s) && decide (len = len))))) := by
      rw [Dat.head, if_neg (by omega), if_neg (by omega), if_neg (by omega), if_neg (by omega), if_neg (by omega), if_pos rfl, hz, hz, he, decide_eq_true (rfl : len = len)]; exact flip3 _ _ _ _
    by_cases l2 : len = 2
    · subst l2
      exact ⟨_, _, _, _, _, _, _, _, fun w => bare_6a n d s o cap w, by rw [hh]; rfl⟩
    · exact ⟨_, _, _, _, _, _, _, _, fun w => bare_6b n d s o len cap (by simp; omega) w, by rw [hh, decide_eq_false l2]⟩
  have flip4 : ∀ a b c : Bool, (a && (b && c)) = (true && (b && (a && (c && true)))) := by decide
  by_cases k7 : k = 7
  · subst k7
    exact ⟨_, _, _, _, _, _, _, _, fun w => bare_7 n d s o len cap w, by rw [Dat.head, if_neg (by omega), if_neg (by omega), if_neg (by omega), if_neg (by omega), if_neg (by omega), if_neg (by omega), if_pos rfl, hz, hz, he, decide_eq_true (rfl : len = len)]; exact flip4 _ _ _⟩
  · exact ⟨_, _, _, _, _, _, _, _, fun w => bare_8 k n d s o len cap (by omega) w, by rw [Dat.head, if_neg k0, if_neg k1, if_neg k2, if_neg k3, if_neg (by omega), if_neg k6, if_neg k7]; rfl⟩

theorem rightL_any (l : List Dat) (deep : Nat) : Dat.rightL l deep = !(l.any fun x => !Dat.right x deep) := by
  induction l with
  | nil => rfl
  | cons x l ih => rw [Dat.rightL, ih, List.any_cons]; cases Dat.right x deep <;> simp

set_option maxHeartbeats 1000000 in
theorem right11_any (_x : Dat) (v : Value) (deep c pb : Nat) (w : World) (r : Bool) (hfn : w.cell? ⟨c, 0, none⟩ = some (.func (.func 62) #[] #[.pointer (some ⟨c, 0, none⟩)])) (hpb : w.cell? ⟨pb, 0, none⟩ = some (.int .i64 deep)) (hdeep : deep ≤ 200) (hc : c < w.heap.size) (hp : pb < w.heap.size)
    (hv : ∃ (k n d : Int) (s : ByteArray) (o : Option Addr) (len cap : Nat), v = .agg #[.int .i64 k, .int .i64 n, .int .i64 d, .string s, .slice o len cap])
    (H : ∀ w', Below w.heap.size w w' → Calls Tryz.prog 62 #[v, .int .i64 (deep + 1 : Nat), .pointer (some ⟨c, 0, none⟩)] w' fun e w'' => e = .returned (.bool r) ∧ Below w'.heap.size w' w'') :
    Calls Tryz.prog 64 #[v, .pointer (some ⟨c, 0, none⟩), .pointer (some ⟨pb, 0, none⟩)] w fun e w' => e = .returned (.bool !r) ∧ Below w.heap.size w w' := by
  obtain ⟨k, n, d, s, o, len, cap, rfl⟩ := hv
  have HW : ∀ X, Below w.heap.size w (w.alloc X) := fun X => (Below.refl _ _).alloc (Nat.le_refl _) _
  have HWH := Lib.hid HW
  have HH := Lib.hid H
  have hcn : ¬ c = w.heap.size := by omega
  have hpn : ¬ pb = w.heap.size := by omega
  clear HW H
  go_enter Tryz.func64, Tryz.ntmps64
  go_wp2_with (first | (go_at_call 62; refine (HH.out _ (HWH.out _)).mono ?_; rintro e' w1 ⟨rfl, hb⟩))
  go_ret
  exact ⟨rfl, (HWH.out _).trans (hb.mono (by simp))⟩
end Go.Proofs.YtdlhocghiaghfaaGreatDoor

namespace Go.Proofs.YtdlhocghiaghfaaGreatDoor
open Go.RowKit

theorem right_parts (l : List Dat) (deep c pb B : Nat) (sl : Value) (W : World) (r : Bool) (hr : Dat.rightL l (deep + 1) = r) (hv : RepS W B l sl) (hB : B ≤ W.heap.size) (hc : c < W.heap.size) (hp : pb < W.heap.size) (hfn : W.cell? ⟨c, 0, none⟩ = some (.func (.func 62) #[] #[.pointer (some ⟨c, 0, none⟩)])) (hpb : W.cell? ⟨pb, 0, none⟩ = some (.int .i64 deep)) (hdeep : deep ≤ 200)
    (IH : ∀ x ∈ l, ∀ (v : Value) (deep c : Nat) (di : Int) (B : Nat) (w : World), di = deep → RepD w B x v → B ≤ w.heap.size → c < w.heap.size → w.cell? ⟨c, 0, none⟩ = some (.func (.func 62) #[] #[.pointer (some ⟨c, 0, none⟩)]) → deep ≤ 201 →
      Calls Tryz.prog 62 #[v, .int .i64 di, .pointer (some ⟨c, 0, none⟩)] w fun e w' => e = .returned (.bool (Dat.right x deep)) ∧ Below w.heap.size w w') :
    Calls Tryz.prog 36 #[sl, .func (.func 64) #[] #[.pointer (some ⟨c, 0, none⟩), .pointer (some ⟨pb, 0, none⟩)]] W fun e w' => e = .returned (.bool !r) ∧ Below W.heap.size W w' := by
  refine containsFunc_S 64 #[.pointer (some ⟨c, 0, none⟩), .pointer (some ⟨pb, 0, none⟩)] (fun x => !Dat.right x (deep + 1)) (!r) l sl B W hv hB (fun _ _ => by kernel_rfl) ?_ (by rw [← hr, rightL_any, Bool.not_not])
  intro x hx v w' hxv hb
  have hs := hb.size
  refine right11_any x v deep c pb w' (Dat.right x (deep + 1)) ((hb.cell (p := ⟨c, 0, none⟩) hc).trans hfn) ((hb.cell (p := ⟨pb, 0, none⟩) hp).trans hpb) hdeep (by omega) (by omega) (agg_of hxv) ?_
  intro w'' hb2
  have hs2 := hb2.size
  exact IH x hx v (deep + 1) c _ B w'' rfl (hxv.kept (hb2.mono (by omega))) (by omega) (by omega) ((hb2.cell (p := ⟨c, 0, none⟩) (by show c < _; omega)).trans ((hb.cell (p := ⟨c, 0, none⟩) hc).trans hfn)) (by omega)

theorem right_no {deep : Nat} {n n' d d' : Int} {s s' : ByteArray} {len len' : Nat} {b q r : Bool} (h : (decide (deep ≤ 200) && ((b && (decide (n' = n) && (decide (d' = d) && (decide (s' = s) && decide (len' = len))))) && q)) = r)
    (hno : ¬ b = true ∨ 200 < (deep : Int) ∨ ¬ n' = n ∨ ¬ d' = d ∨ ¬ s'.toList = s.toList ∨ ((len' : Int) != (len : Int)) = true) : false = r := by
  rw [← h]
  by_cases h1 : deep ≤ 200 ∧ b = true ∧ n' = n ∧ d' = d ∧ s' = s ∧ len' = len
  · obtain ⟨a, rfl, rfl, rfl, rfl, rfl⟩ := h1
    rcases hno with h | h | h | h | h | h
    · exact absurd rfl h
    · omega
    · exact absurd rfl h
    · exact absurd rfl h
    · exact absurd rfl h
    · simp at h
  · symm
    rw [Bool.and_eq_false_iff]
    apply Decidable.byContradiction
    intro h2
    apply h1
    simp only [not_or, Bool.not_eq_false, Bool.and_eq_true, decide_eq_true_eq] at h2
    obtain ⟨a, ⟨b, c, d, e, f⟩, _⟩ := h2
    exact ⟨a, b, c, d, e, f⟩

theorem right_yes {deep : Nat} {n n' d d' : Int} {s s' : ByteArray} {len len' : Nat} {b q r : Bool} (h : (decide (deep ≤ 200) && ((b && (decide (n' = n) && (decide (d' = d) && (decide (s' = s) && decide (len' = len))))) && q)) = r)
    (h0 : b = true) (h1 : (deep : Int) ≤ 200) (h2 : n' = n) (h3 : d' = d) (h4 : s'.toList = s.toList) (h5 : ((len' : Int) != (len : Int)) = false) : q = r := by
  have e : s' = s := by
    apply ByteArray.ext; apply Array.ext'
    rw [← ByteArray.toList_eq, ← ByteArray.toList_eq]; exact h4
  have e2 : len' = len := by have := h5; simp at this; omega
  rw [← h, decide_eq_true (by omega : deep ≤ 200), h0, decide_eq_true h2, decide_eq_true h3, decide_eq_true e, decide_eq_true e2]; rfl

set_option maxHeartbeats 4000000 in
set_option maxRecDepth 100000 in
theorem right1_any : ∀ (x : Dat) (v : Value) (deep c : Nat) (di : Int) (B : Nat) (w : World), di = deep → RepD w B x v → B ≤ w.heap.size → c < w.heap.size → w.cell? ⟨c, 0, none⟩ = some (.func (.func 62) #[] #[.pointer (some ⟨c, 0, none⟩)]) → deep ≤ 201 →
    Calls Tryz.prog 62 #[v, .int .i64 di, .pointer (some ⟨c, 0, none⟩)] w fun e w' => e = .returned (.bool (Dat.right x deep)) ∧ Below w.heap.size w w' := by
  intro x
  induction x using Dat.ind with
  | h k n d s l ih =>
    intro v deep c di B w hdi hv hB hc hfn hdeep
    subst hdi
    obtain ⟨sl, rfl, bk, bn, bd, bs, o, len, cap, rfl, hlen, hcap, hmax, hc0⟩ := hv.open
    obtain ⟨k', n', d', s', o', len', cap', b, hbare, hhead⟩ := bare_any k n d s o len cap bn bd bs
    obtain ⟨r, hr⟩ : ∃ r, Dat.right (.mk k n d s l) deep = r := ⟨_, rfl⟩
    rw [hr]
    rw [Dat.right, ← hlen, hhead] at hr
    have IH := Lib.hid ih
    have HV := Lib.hid hc0
    have HL := Lib.hid hlen
    have HB := Lib.hid hbare
    have HR := Lib.hid hr
    clear ih hv hc0 hlen hbare hhead hr
    have hcn : ¬ c = w.heap.size := by omega
    go_enter Tryz.func62, Tryz.ntmps62
    go_wp2_with (first | (go_at_call 63; refine (HB.out _).mono ?_; rintro e' w1 ⟨rfl, hb⟩; have hz := two_size hb; have z0 : w.heap.size < w1.heap.size := (by omega); have z1 : w.heap.size + 1 < w1.heap.size := (by omega); have z2 : c < w1.heap.size := (by omega); obtain ⟨q0, q1, q2, q3, q4⟩ := two_five hb; have q5 := two_one2 hb; have q6 := ((two_below hb).cell (p := ⟨c, 0, none⟩) hc).trans hfn; have HB1 := Lib.hid hb; clear hb))
    all_goals try
      (go_ret
       refine ⟨ret_bool (right_no HR.out ?_), (two_below HB1.out).alloc (by omega) _⟩
       first
       | exact .inl ‹_›
       | exact .inr (.inr (.inr (.inr (.inl ‹_›))))
       | exact .inr (.inr (.inr (.inl ‹_›)))
       | exact .inr (.inr (.inl ‹_›))
       | exact .inr (.inl ‹_›)
       | (rcases ‹200 < (deep : Int) ∨ _› with h | h
          · exact .inr (.inl h)
          · exact .inr (.inr (.inr (.inr (.inr h))))))
    have HQ := Lib.hid (right_yes HR.out (by assumption) (by assumption) (by assumption) (by assumption) (by assumption) (‹_ ∧ ((len' : Int) != (len : Int)) = false›).2)
    have hd0 : deep ≤ 200 := by have := ‹(deep : Int) ≤ 200›; omega
    have HS : RepS w B l (.slice o len cap) := ⟨o, len, cap, rfl, HL.out, hcap, hmax, HV.out⟩
    have HS1 := Lib.hid HS
    clear HS
    have HK := Lib.hid (two_below HB1.out)
    refine (right_parts l deep c (w.heap.size + 1) B _ _ r HQ.out (HS1.out.kept ((HK.out.alloc (by omega) _).mono hB)) ?_ ?_ ?_ ?_ ?_ hd0 IH.out).mono ?_
    · simp; omega
    · simp; omega
    · simp; omega
    · rw [World.cell?_alloc_past _ _ _ z2]; exact q6
    · rw [World.cell?_alloc_past _ _ _ z1]; exact q5
    rintro e2 w2 ⟨rfl, hb2⟩
    go_wp2
    go_ret
    exact ⟨by simp, (HK.out.alloc (by omega) _).trans (hb2.mono (by simp; omega))⟩

theorem dright_any (x : Dat) (v : Value) (B : Nat) (w : World) (hv : RepD w B x v) (hB : B ≤ w.heap.size) :
    Calls Tryz.prog 38 #[v] w fun e w' => e = .returned (.bool (Dat.right x 0)) ∧ Below w.heap.size w w' := by
  obtain ⟨k, n, d, s, l⟩ := x
  obtain ⟨sl, rfl, _, _, _, _, o, len, cap, rfl, hx⟩ := hv.open
  clear hx
  have HV := Lib.hid hv
  clear hv
  have HW := Lib.hid (fun X Y => ((Below.refl w.heap.size w).alloc (Nat.le_refl _) X).alloc (by simp) Y)
  obtain ⟨y, hy⟩ : ∃ y, Dat.right (.mk k n d s l) 0 = y := ⟨_, rfl⟩
  rw [hy]
  have HY := Lib.hid hy
  clear hy
  go_enter Tryz.func38, Tryz.ntmps38
  go_wp2_with fail
  refine (right1_any (.mk k n d s l) _ 0 (w.heap.size + 1) 0 B _ rfl (HV.out.kept ((HW.out _ _).mono hB)) ?_ ?_ (box_cell2 _ _ _ _ 0 rfl) (by omega)).mono ?_
  · simp; omega
  · simp
  rw [HY.out]
  rintro e' w1 ⟨rfl, hb1⟩
  go_wp2
  go_ret
  exact ⟨rfl, (HW.out _ _).trans (hb1.mono (by simp; omega))⟩
end Go.Proofs.YtdlhocghiaghfaaGreatDoor

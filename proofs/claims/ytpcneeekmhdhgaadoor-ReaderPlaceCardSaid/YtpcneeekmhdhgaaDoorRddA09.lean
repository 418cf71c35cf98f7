/-
  What the proofs lean on: RdL6.
-/
import Derived.BigFrame
import Derived.Test.YtpcneeekmhdhgaaDoorRddA08
set_option maxRecDepth 100000
set_option maxHeartbeats 16000000
namespace Go.Proofs.YtpcneeekmhdhgaaDoor
section
open Go Go.RowKit
def laterB (c : UInt8) : Bool := Rd.mark c || c == 40 || c == 35 || c == 39
theorem laterB_of {c : UInt8} (h : Rd.later c) : laterB c = true := by
 unfold laterB
 rcases h with h | rfl | rfl | rfl
 ·rw [h]; rfl
 ·simp
 ·simp
 ·simp
def stripO (o : Oper) : Oper := { o with after := #[], pos := "" }
theorem wpList_strip {P : Program} {ops : Array Oper} {Q : Exit → Act → World → Prop} : ∀ l : List Oper, wpList P (ops.map stripO) Q (l.map stripO) = wpList P ops Q l
 | [] => by funext a w; rfl
 | o :: l => by
  funext a w
  have hy : yielded (ops.map stripO) a.tmps = yielded ops a.tmps := by
   funext j
   unfold yielded
   rw [Array.getElem?_map]
   cases ops[j]? <;> rfl
  simp only [List.map_cons, wpList, hy, wpList_strip l]
  rfl
theorem wp_region_strip {P : Program} {ops : Array Oper} {Q : Exit → Act → World → Prop} {a : Act} {w : World} {id : Nat} (h : wpList P (ops.map stripO) Q (ops.toList.map stripO) a w) : (Code.region id ops false).wp P Q a w :=
 wp_region_list (by rw [wpList_strip] at h; exact h)
def laterI (n : Nat) : Bool := ((decide (97 ≤ n) && decide (n ≤ 122)) || (decide (48 ≤ n) && decide (n ≤ 57))) || [40, 35, 39, 45, 43, 42, 47, 60, 62, 61, 33, 63, 95].contains n
theorem laterI_all : ∀ c : Fin 256, laterB (UInt8.ofNat c.val) = laterI c.val := by decide +kernel
theorem laterN {c : UInt8} {n : Nat} (lb : Bool) (hn : c.toNat = n) (h : laterB c = lb) : laterI n = lb := by
 have h2 := laterI_all ⟨c.toNat, c.toNat_lt⟩
 rw [show UInt8.ofNat (⟨c.toNat, c.toNat_lt⟩ : Fin 256).val = c from UInt8.ofNat_toNat] at h2
 rw [← h, h2, ← hn]
theorem ways15N (n : Nat) : (97 ≤ n ∧ n ≤ 122) ∨ (48 ≤ n ∧ n ≤ 57) ∨ n = 40 ∨ n = 35 ∨ n = 39 ∨ n = 45 ∨ n = 43 ∨ n = 42 ∨ n = 47 ∨ n = 60 ∨ n = 62 ∨ n = 61 ∨ n = 33 ∨ n = 63 ∨ n = 95 ∨ ((n < 48 ∨ (57 < n ∧ n < 97) ∨ 122 < n) ∧ n ≠ 40 ∧ n ≠ 35 ∧ n ≠ 39 ∧ n ≠ 45 ∧ n ≠ 43 ∧ n ≠ 42 ∧ n ≠ 47 ∧ n ≠ 60 ∧ n ≠ 62 ∧ n ≠ 61 ∧ n ≠ 33 ∧ n ≠ 63 ∧ n ≠ 95) := by omega
theorem laterI_no {n : Nat} (h : n < 48 ∨ (57 < n ∧ n < 97) ∨ 122 < n) (he : n ≠ 40 ∧ n ≠ 35 ∧ n ≠ 39 ∧ n ≠ 45 ∧ n ≠ 43 ∧ n ≠ 42 ∧ n ≠ 47 ∧ n ≠ 60 ∧ n ≠ 62 ∧ n ≠ 61 ∧ n ≠ 33 ∧ n ≠ 63 ∧ n ≠ 95) : laterI n = false := by
 have h1 : (decide (97 ≤ n) && decide (n ≤ 122)) = false := by
  rw [Bool.and_eq_false_iff]; simp; omega
 have h2 : (decide (48 ≤ n) && decide (n ≤ 57)) = false := by
  rw [Bool.and_eq_false_iff]; simp; omega
 unfold laterI
 rw [h1, h2]
 simp only [Bool.or_self, Bool.false_or, List.contains_eq_any_beq, List.any_cons, List.any_nil, Bool.or_false, Bool.or_eq_false_iff, beq_eq_false_iff_ne]
 exact he
theorem take_extract (s : ByteArray) (p : Nat) : (s.extract 0 p).data.toList = s.data.toList.take p := by
 rw [extract_list]
 simp
theorem size_list (s : ByteArray) : s.data.toList.length = s.size := rfl
theorem extract_size {s : ByteArray} {p : Nat} (h : p ≤ s.size) : (s.extract 0 p).size = p := by
 rw [← size_list, take_extract, List.length_take, size_list]; omega
theorem place_reads {s : ByteArray} {q : List UInt8} (hs : s.size ≤ 400) (hA : Rd.A s.data.toList = .bad q) {p : Nat} (hp : s.size - q.length = p) :
  Rd.At s p q ∧ (q = [] → readD (s.extract 0 p) = (none, p)) ∧ (∀ c v, q = c :: v → ((∃ l, readD (s.extract 0 p) = (some l, p)) ∨ readD (s.extract 0 p) = (none, p)) ∧ (readD (s.extract 0 (p + 1)) = (none, p) ∨ laterB c = true)) := by
 obtain ⟨u, hu, hcut, hnext⟩ := Rd.A_place hA
 have hat : Rd.At s p q := by rw [← hp]; exact (Rd.At.zero s).suf ⟨u, hu.symm⟩
 have hlen : u.length + q.length = s.size := by rw [← size_list, hu, List.length_append]
 have hpu : p = u.length := by omega
 have hU : (s.extract 0 p).data.toList = u := by rw [take_extract, hu, hpu, List.take_left]
 have hz := extract_size (s := s) (p := p) (by omega)
 have hbad : Rd.A u = .bad [] → readD (s.extract 0 p) = (none, p) := fun h => by
  have h2 : Rd.A (s.extract 0 p).data.toList = .bad [] := by rw [hU]; exact h
  rw [readD_bad (s := s.extract 0 p) (q := []) (by omega) h2, hz]
  rfl
 refine ⟨hat, fun hq => hbad ?_, fun c v hq => ⟨?_, ?_⟩⟩
 ·have : u = s.data.toList := by rw [hu, hq, List.append_nil]
  rw [this, hA, hq]
 ·rcases hcut with ⟨l, hl⟩ | hb
  ·left
   have h2 : Rd.A (s.extract 0 p).data.toList = .ok l [] := by rw [hU]; exact hl
   exact ⟨l, by rw [readD_ok (s := s.extract 0 p) (by omega) h2, hz]⟩
  ·exact .inr (hbad hb)
 ·rcases hnext c v hq with h | h
  ·left
   have hl : p + 1 ≤ s.size := by rw [hq] at hlen; simp only [List.length_cons] at hlen; omega
   have hU2 : (s.extract 0 (p + 1)).data.toList = u ++ [c] := by
    rw [take_extract, hu, hq, hpu, show u ++ c :: v = (u ++ [c]) ++ v from by simp, show u.length + 1 = (u ++ [c]).length from by simp, List.take_left]
   have hz2 := extract_size (s := s) (p := p + 1) hl
   have h2 : Rd.A (s.extract 0 (p + 1)).data.toList = .bad [c] := by rw [hU2]; exact h
   rw [readD_bad (s := s.extract 0 (p + 1)) (q := [c]) (by omega) h2, hz2]
   rfl
  ·exact .inr (laterB_of h)
theorem readerPlace_walk (s : ByteArray) (hz : s.size ≤ 140737488355328) (w : World) (hE : Env w) :
  Calls Tryd.prog 3 #[.string s] w fun e w' => e = .returned (.bool true) ∧ Below w.heap.size w w' := by
 have HAW := Lib.hid (awake3_any w hE)
 clear hE
 go_enter Tryd.func3, Tryd.ntmps3
 go_upto_region 2 with (first | (go_at_call 4; refine HAW.out.mono ?_; rintro e' w1 ⟨rfl, hb1⟩))
 have HB1 := Lib.hid hb1
 clear hb1
 by_cases hsz : s.size ≤ 400
 case neg =>
  have hd : decide (400 < (s.size : Int)) = true := by simp; omega
  go_wp2_with fail
  go_ret
  exact ⟨rfl, HB1.out⟩
 have hd : decide (400 < (s.size : Int)) = false := by simp; omega
 cases hA : Rd.A s.data.toList with
 | ok l q =>
  have HR1 := Lib.hid (fun W => read_ok (readD_ok (by omega) hA) (by omega) W)
  clear hA
  go_upto_region 5 with (first | (go_at_call 5; refine (HR1.out _).mono ?_; rintro e' w3 ⟨o3, len3, cap3, rfl, hr3, hb3⟩; have HB3 := Lib.hid hb3; clear hr3 hb3))
  go_wp2_with fail
  go_ret
  exact ⟨rfl, Below.next HB1.out HB3.out⟩
 | bad q =>
  have HR1 := Lib.hid (fun W => read_no (readD_bad (by omega) hA) (by omega) W)
  obtain ⟨p, hp⟩ : ∃ p, s.size - q.length = p := ⟨_, rfl⟩
  rw [hp] at HR1
  have hps : p ≤ s.size := by omega
  obtain ⟨hat, hq0, hq1⟩ := place_reads hsz hA hp
  have hex := extract_size (s := s) (p := p) hps
  have hr0 : decide ((p : Int) < 0) = false := by simp
  have hr1 : decide ((s.size : Int) < (p : Int)) = false := by simp; omega
  cases q with
  | nil =>
   have hpz : p = s.size := by simpa using hp.symm
   have hD2 := hq0 rfl
   have HR2 := Lib.hid (fun W => read_no hD2 (by omega) W)
   have heq : ((p : Int) == (s.size : Int)) = true := by simp; omega
   clear hA hat hp hD2 hq0 hq1 hex hpz
   go_upto_region 5 with (first | (go_at_call 5; refine (HR1.out _).mono ?_; rintro e' w3 ⟨o3, len3, cap3, rfl, hr3, hb3⟩; have HB3 := Lib.hid (Below.next HB1.out hb3); clear hr3 hb3))
   go_upto_region 10 with (first | (go_at_call 5; refine (HR2.out _).mono ?_; rintro e' w4 ⟨o4, len4, cap4, rfl, hr4, hb4⟩; have HB4 := Lib.hid (Below.next HB3.out hb4); clear hr4 hb4))
   go_wp2_with fail
   go_ret
   exact ⟨rfl, HB4.out⟩
  | cons c v =>
   simp only [List.length_cons] at hp
   have hlen := hat.1
   simp only [List.length_cons] at hlen
   have hpl : p < s.size := by omega
   obtain ⟨hlt, hget⟩ := hat.get
   have heq : ((p : Int) == (s.size : Int)) = false := by simp; omega
   obtain ⟨hor2, hor3⟩ := hq1 c v rfl
   have hex2 := extract_size (s := s) (p := p + 1) (by omega)
   obtain ⟨lb, hlb⟩ : ∃ lb, laterB c = lb := ⟨_, rfl⟩
   have HLB := Lib.hid hlb
   have h3 : ∃ (p3 : Nat) (er : Int), ((er == 2) = true ∧ p3 = p ∨ lb = true) ∧ ∀ W, Calls Tryd.prog 5 #[.string (s.extract 0 (p + 1))] W fun e w' => (∃ v, e = .returned (.tuple #[v, .int .i64 p3, .int .i64 er])) ∧ Below W.heap.size W w' := by
    rcases hor3 with h | h
    ·exact ⟨p, 2, .inl ⟨rfl, rfl⟩, fun W => (read_no h (by omega) W).mono fun e w' ⟨o, len, cap, h1, _, h3⟩ => ⟨⟨_, h1⟩, h3⟩⟩
    ·exact ⟨_, _, .inr (hlb.symm.trans h), fun W => (read_any (s.extract 0 (p + 1)) W (by omega)).mono fun e w' ⟨v, h1, _, _, h2⟩ => ⟨⟨v, h1⟩, h2⟩⟩
   obtain ⟨p3, er, hor, hR3⟩ := h3
   have HR3 := Lib.hid hR3
   have HOR := Lib.hid hor
   have h2 : (∀ W, Calls Tryd.prog 5 #[.string (s.extract 0 p)] W fun e w' => (∃ (v : Value), e = .returned (.tuple #[v, .int .i64 p, .int .i64 0])) ∧ Below W.heap.size W w') ∨ (∀ W, Calls Tryd.prog 5 #[.string (s.extract 0 p)] W fun e w' => (∃ v, e = .returned (.tuple #[v, .int .i64 p, .int .i64 2])) ∧ Below W.heap.size W w') := by
    rcases hor2 with ⟨l, hl⟩ | hb
    ·exact .inl fun W => (read_ok hl (by omega) W).mono fun e w' ⟨o, len, cap, h1, _, h3⟩ => ⟨⟨_, h1⟩, h3⟩
    ·exact .inr fun W => (read_no hb (by omega) W).mono fun e w' ⟨o, len, cap, h1, _, h3⟩ => ⟨⟨_, h1⟩, h3⟩
   clear hA hat hlen hp hR3 hor hlb hor2 hor3 hq0 hq1 hex hex2
   rcases h2 with h2 | h2
   case' inl =>
    have HR2 := Lib.hid h2
    clear h2
    go_upto_region 5 with (first | (go_at_call 5; refine (HR1.out _).mono ?_; rintro e' w3 ⟨o3, len3, cap3, rfl, hr3, hb3⟩; have HB3 := Lib.hid (Below.next HB1.out hb3); clear hr3 hb3))
    go_upto_region 10 with (first | (go_at_call 5; refine (HR2.out _).mono ?_; rintro e' w4 ⟨⟨v4, rfl⟩, hb4⟩; have HB4 := Lib.hid (Below.next HB3.out hb4); clear hb4))
    go_upto_region 14 with fail
   case' inr =>
    have HR2 := Lib.hid h2
    clear h2
    go_upto_region 5 with (first | (go_at_call 5; refine (HR1.out _).mono ?_; rintro e' w3 ⟨o3, len3, cap3, rfl, hr3, hb3⟩; have HB3 := Lib.hid (Below.next HB1.out hb3); clear hr3 hb3))
    go_upto_region 10 with (first | (go_at_call 5; refine (HR2.out _).mono ?_; rintro e' w4 ⟨⟨v4, rfl⟩, hb4⟩; have HB4 := Lib.hid (Below.next HB3.out hb4); clear hb4))
    go_upto_region 14 with fail
   all_goals
    go_upto_region 15 with (first | (go_at_call 5; refine (HR3.out _).mono ?_; rintro e' w5 ⟨⟨v5, rfl⟩, hb5⟩; have HB5 := Lib.hid (Below.next HB4.out hb5); clear hb5))
    go_upto_region 16 with fail
    clear HR1 HR2 HR3 hget hlt heq hpl
    obtain ⟨n, hn⟩ : ∃ n, c.toNat = n := ⟨_, rfl⟩
    have hn256 : n < 256 := by rw [← hn]; exact c.toNat_lt
    have hLE := laterN lb hn HLB.out
    rw [hn]
    clear HLB hn
    have HLE := Lib.hid hLE
    clear hLE
    go_cut [14] (fun cv wx => cv = .bool lb ∧ w5 = wx)
    case first =>
     rcases ways15N n with ⟨h1, h2⟩ | ⟨h1, h2⟩ | h | h | h | h | h | h | h | h | h | h | h | h | h | ⟨h1, h2⟩
     case' inl =>
      obtain rfl : lb = true := by rw [← HLE.out]; simp [laterI, h1, h2]
      have b1 : decide (97 ≤ (n : Int)) = true := by simp; omega
      have b2 : decide ((n : Int) ≤ 122) = true := by simp; omega
      have c1 : decide (97 ≤ n) = true := by simpa using h1
      have c2 : decide (n ≤ 122) = true := by simpa using h2
      have n40 : ((n : Int) == 40) = false := by simp; omega
      have n35 : ((n : Int) == 35) = false := by simp; omega
      have n39 : ((n : Int) == 39) = false := by simp; omega
      have n45 : ((n : Int) == 45) = false := by simp; omega
      have n43 : ((n : Int) == 43) = false := by simp; omega
      have n42 : ((n : Int) == 42) = false := by simp; omega
      have n47 : ((n : Int) == 47) = false := by simp; omega
      have n60 : ((n : Int) == 60) = false := by simp; omega
      have n62 : ((n : Int) == 62) = false := by simp; omega
      have n61 : ((n : Int) == 61) = false := by simp; omega
      have n33 : ((n : Int) == 33) = false := by simp; omega
      have n63 : ((n : Int) == 63) = false := by simp; omega
      have n95 : ((n : Int) == 95) = false := by simp; omega
     case' inr.inl =>
      obtain rfl : lb = true := by rw [← HLE.out]; simp [laterI, h1, h2]
      have b1 : decide (97 ≤ (n : Int)) = false := by simp; omega
      have b2 : decide (48 ≤ (n : Int)) = true := by simp; omega
      have b3 : decide ((n : Int) ≤ 57) = true := by simp; omega
      have c1 : decide (97 ≤ n) = false := by simp; omega
      have c2 : decide (48 ≤ n) = true := by simpa using h1
      have c3 : decide (n ≤ 57) = true := by simpa using h2
      have n40 : ((n : Int) == 40) = false := by simp; omega
      have n35 : ((n : Int) == 35) = false := by simp; omega
      have n39 : ((n : Int) == 39) = false := by simp; omega
      have n45 : ((n : Int) == 45) = false := by simp; omega
      have n43 : ((n : Int) == 43) = false := by simp; omega
      have n42 : ((n : Int) == 42) = false := by simp; omega
      have n47 : ((n : Int) == 47) = false := by simp; omega
      have n60 : ((n : Int) == 60) = false := by simp; omega
      have n62 : ((n : Int) == 62) = false := by simp; omega
      have n61 : ((n : Int) == 61) = false := by simp; omega
      have n33 : ((n : Int) == 33) = false := by simp; omega
      have n63 : ((n : Int) == 63) = false := by simp; omega
      have n95 : ((n : Int) == 95) = false := by simp; omega
     case' inr.inr.inr.inr.inr.inr.inr.inr.inr.inr.inr.inr.inr.inr.inr =>
      obtain rfl : lb = false := by rw [← HLE.out]; exact laterI_no h1 h2
      obtain ⟨e1, e2, e3, e4, e5, e6, e7, e8, e9, e10, e11, e12, e13⟩ := h2
      have n40 : ((n : Int) == 40) = false := by simp; omega
      have n35 : ((n : Int) == 35) = false := by simp; omega
      have n39 : ((n : Int) == 39) = false := by simp; omega
      have n45 : ((n : Int) == 45) = false := by simp; omega
      have n43 : ((n : Int) == 43) = false := by simp; omega
      have n42 : ((n : Int) == 42) = false := by simp; omega
      have n47 : ((n : Int) == 47) = false := by simp; omega
      have n60 : ((n : Int) == 60) = false := by simp; omega
      have n62 : ((n : Int) == 62) = false := by simp; omega
      have n61 : ((n : Int) == 61) = false := by simp; omega
      have n33 : ((n : Int) == 33) = false := by simp; omega
      have n63 : ((n : Int) == 63) = false := by simp; omega
      have n95 : ((n : Int) == 95) = false := by simp; omega
      clear e1 e2 e3 e4 e5 e6 e7 e8 e9 e10 e11 e12 e13
      rcases h1 with h1 | ⟨h1, h2⟩ | h1
     case' inr.inr.inr.inr.inr.inr.inr.inr.inr.inr.inr.inr.inr.inr.inr.inl =>
      have b1 : decide (97 ≤ (n : Int)) = false := by simp; omega
      have b2 : decide (48 ≤ (n : Int)) = false := by simp; omega
      have c1 : decide (97 ≤ n) = false := by simp; omega
      have c2 : decide (48 ≤ n) = false := by simp; omega
     case' inr.inr.inr.inr.inr.inr.inr.inr.inr.inr.inr.inr.inr.inr.inr.inr.inl =>
      have b1 : decide (97 ≤ (n : Int)) = false := by simp; omega
      have b2 : decide (48 ≤ (n : Int)) = true := by simp; omega
      have b3 : decide ((n : Int) ≤ 57) = false := by simp; omega
      have c1 : decide (97 ≤ n) = false := by simp; omega
      have c2 : decide (48 ≤ n) = true := by simp; omega
      have c3 : decide (n ≤ 57) = false := by simp; omega
     case' inr.inr.inr.inr.inr.inr.inr.inr.inr.inr.inr.inr.inr.inr.inr.inr.inr =>
      have b1 : decide (97 ≤ (n : Int)) = true := by simp; omega
      have b2 : decide ((n : Int) ≤ 122) = false := by simp; omega
      have b3 : decide (48 ≤ (n : Int)) = true := by simp; omega
      have b4 : decide ((n : Int) ≤ 57) = false := by simp; omega
      have c1 : decide (97 ≤ n) = true := by simp; omega
      have c2 : decide (n ≤ 122) = false := by simp; omega
      have c3 : decide (48 ≤ n) = true := by simp; omega
      have c4 : decide (n ≤ 57) = false := by simp; omega
     all_goals try subst h
     all_goals try (obtain rfl : lb = true := by rw [← HLE.out]; rfl)
     all_goals
      as_aux_lemma =>
       clear HLE
       refine wp_region_strip ?_
       simp only [List.append_eq, List.cons_append, List.nil_append, List.map_toArray, List.map_cons, List.map_nil, stripO]
       go_wp2_with fail
       go_meet
       exact ⟨rfl, rfl⟩
    case rest =>
     obtain ⟨rfl, rfl⟩ := hcut
     clear HLE
     rcases HOR.out with ⟨h1, rfl⟩ | rfl
     ·clear HOR
      go_wp2_with fail
      go_ret
      exact ⟨rfl, HB5.out⟩
     ·clear HOR
      cases h1 : (er == 2)
      ·go_wp2_with fail
       go_ret
       exact ⟨rfl, HB5.out⟩
      ·cases h2 : ((p3 : Int) == (p : Int))
       ·go_wp2_with fail
        go_ret
        exact ⟨rfl, HB5.out⟩
       ·go_wp2_with fail
        go_ret
        exact ⟨rfl, HB5.out⟩
end
end Go.Proofs.YtpcneeekmhdhgaaDoor

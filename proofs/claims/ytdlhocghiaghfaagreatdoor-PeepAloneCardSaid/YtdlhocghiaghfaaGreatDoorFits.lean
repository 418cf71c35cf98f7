/-
  flat.fits, an instruction at a time.
-/
import Derived.Test.YtdlhocghiaghfaaGreatDoorFits1
import Derived.Test.YtdlhocghiaghfaaGreatDoorFits2
import Derived.Test.YtdlhocghiaghfaaGreatDoorFits3
namespace Go.Proofs.YtdlhocghiaghfaaGreatDoor
open Go.RowKit

theorem fits_any (k : Int) (d a b : Int) (l : List Int) (o : Option Addr) (len cap : Nat) (args regs : Int) (rest : Bool) (oc oa ok op : Option Addr) (lc cc la ca lk ck lp cp : Nat) (B : Nat) (w : World) (ha : -9223372036854775808 ≤ a ∧ a ≤ 9223372036854775807) (hv : SlC w B 1 IntR l (.slice o len cap)) (hB : B ≤ w.heap.size) (r : Bool) (hr : Unt.fits ⟨k, d, a, b, l⟩ regs lc lp lk = r) :
    Calls Tryz.prog 41 #[.agg #[.int .i64 k, .int .i64 d, .int .i64 a, .int .i64 b, .slice o len cap], .agg #[.int .i64 args, .bool rest, .int .i64 regs, .slice oc lc cc, .slice oa la ca], .agg #[.slice ok lk ck, .slice op lp cp]] w fun e w' => e = .returned (.bool r) ∧ Below w.heap.size w w' := by
  by_cases hk : k < 0 ∨ 22 < k
  · exact fits_no k hk d a b l o len cap args regs rest oc oa ok op lc cc la ca lk ck lp cp B w ha hv hB r hr
  obtain ⟨n, rfl⟩ : ∃ n : Nat, k = n := ⟨k.toNat, by omega⟩
  have hn : n ≤ 22 := by omega
  clear hk
  match n, hn with
  | 0, _ => exact fits_0 d a b l o len cap args regs rest oc oa ok op lc cc la ca lk ck lp cp B w ha hv hB r hr
  | 1, _ => exact fits_1 d a b l o len cap args regs rest oc oa ok op lc cc la ca lk ck lp cp B w ha hv hB r hr
  | 2, _ => exact fits_2 d a b l o len cap args regs rest oc oa ok op lc cc la ca lk ck lp cp B w ha hv hB r hr
  | 3, _ => exact fits_3 d a b l o len cap args regs rest oc oa ok op lc cc la ca lk ck lp cp B w ha hv hB r hr
  | 4, _ => exact fits_4 d a b l o len cap args regs rest oc oa ok op lc cc la ca lk ck lp cp B w ha hv hB r hr
  | 5, _ => exact fits_5 d a b l o len cap args regs rest oc oa ok op lc cc la ca lk ck lp cp B w ha hv hB r hr
  | 6, _ => exact fits_6 d a b l o len cap args regs rest oc oa ok op lc cc la ca lk ck lp cp B w ha hv hB r hr
  | 7, _ => exact fits_7 d a b l o len cap args regs rest oc oa ok op lc cc la ca lk ck lp cp B w ha hv hB r hr
  | 8, _ => exact fits_8 d a b l o len cap args regs rest oc oa ok op lc cc la ca lk ck lp cp B w ha hv hB r hr
  | 9, _ => exact fits_9 d a b l o len cap args regs rest oc oa ok op lc cc la ca lk ck lp cp B w ha hv hB r hr
  | 10, _ => exact fits_10 d a b l o len cap args regs rest oc oa ok op lc cc la ca lk ck lp cp B w ha hv hB r hr
  | 11, _ => exact fits_11 d a b l o len cap args regs rest oc oa ok op lc cc la ca lk ck lp cp B w ha hv hB r hr
  | 12, _ => exact fits_12 d a b l o len cap args regs rest oc oa ok op lc cc la ca lk ck lp cp B w ha hv hB r hr
  | 13, _ => exact fits_13 d a b l o len cap args regs rest oc oa ok op lc cc la ca lk ck lp cp B w ha hv hB r hr
  | 14, _ => exact fits_14 d a b l o len cap args regs rest oc oa ok op lc cc la ca lk ck lp cp B w ha hv hB r hr
  | 15, _ => exact fits_15 d a b l o len cap args regs rest oc oa ok op lc cc la ca lk ck lp cp B w ha hv hB r hr
  | 16, _ => exact fits_16 d a b l o len cap args regs rest oc oa ok op lc cc la ca lk ck lp cp B w ha hv hB r hr
  | 17, _ => exact fits_17 d a b l o len cap args regs rest oc oa ok op lc cc la ca lk ck lp cp B w ha hv hB r hr
  | 18, _ => exact fits_18 d a b l o len cap args regs rest oc oa ok op lc cc la ca lk ck lp cp B w ha hv hB r hr
  | 19, _ => exact fits_19 d a b l o len cap args regs rest oc oa ok op lc cc la ca lk ck lp cp B w ha hv hB r hr
  | 20, _ => exact fits_20 d a b l o len cap args regs rest oc oa ok op lc cc la ca lk ck lp cp B w ha hv hB r hr
  | 21, _ => exact fits_21 d a b l o len cap args regs rest oc oa ok op lc cc la ca lk ck lp cp B w ha hv hB r hr
  | 22, _ => exact fits_22 d a b l o len cap args regs rest oc oa ok op lc cc la ca lk ck lp cp B w ha hv hB r hr
  | n + 23, h => omega
end Go.Proofs.YtdlhocghiaghfaaGreatDoor

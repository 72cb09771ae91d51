/- Numbers in words, walked. -/
import Derived.Test.YtchlbdfapgeebaaRows
import Derived.Test.YtchlbdfapgeebaaMem
import Derived.Deep.QuietTactic
import Derived.BigQuiet
namespace Go.Proofs.Ytchlbdfapgeebaa
open Go.RowKit

def hiI (w : Int) : Int := w / 4294967296
def loI (w : Int) : Int := w % 4294967296

theorem hiI_bound {w : Int} (h0 : 0 ≤ w) (h1 : w < 18446744073709551616) : 0 ≤ hiI w ∧ hiI w ≤ 4294967295 := by unfold hiI; omega
theorem loI_bound (w : Int) : 0 ≤ loI w ∧ loI w ≤ 4294967295 := by unfold loI; omega

theorem wraps_u64 (n : Int) (h0 : 0 ≤ n) (h1 : n < 2 ^ 64) : IntKind.u64.wrap n = n := by rw [IntKind.wrap_u64]; omega

theorem and_low (x : Int) (h0 : 0 ≤ x) (h1 : x < 18446744073709551616) : bits .and .u64 x 4294967295 = x % 4294967296 :=
  bits_mask .u64 64 (by decide) wraps_u64 32 (by decide) x h0 (by omega)

theorem and_seven (x : Int) (h0 : 0 ≤ x) (h1 : x < 18446744073709551616) : bits .and .u64 x 7 = x % 8 :=
  bits_mask .u64 64 (by decide) wraps_u64 3 (by decide) x h0 (by omega)

theorem or_low (a b : Int) (h0 : 0 ≤ a) (h1 : a < 4294967296) (h2 : 0 ≤ b) (h3 : b < 4294967296) : bits .or .u64 (a * 4294967296) b = a * 4294967296 + b :=
  bits_join .u64 64 (by decide) wraps_u64 32 (a * 4294967296) b (by omega) (by omega) (by omega) h2 (by omega) (by omega)

theorem part_32 (w : Int) (W : World) (h0 : 0 ≤ w) (h1 : w < 18446744073709551616) :
    Calls Try.prog 65 #[.int .u64 w, .int .i64 32] W fun e W' => e = .returned (.tuple #[.int .u64 (hiI w), .int .u64 (loI w)]) ∧ ∃ n, W' = W.drewN n := by
  have ha := and_low w h0 h1
  have HA : Hid _ := ha
  clear ha
  go_enter Try.func65, Try.ntmps65
  go_wp2_with fail
  go_quiet (fail)
  go_wp2_with fail
  go_ret2
  refine ⟨?_, nq, rfl⟩
  show Ending.returned (.tuple #[.int .u64 (w / 4294967296), .int .u64 (bits .and .u64 w 4294967295)]) = _
  rw [HA.out]; rfl

theorem pair_any (a b : Int) (W : World) (h0 : 0 ≤ a) (h1 : a < 4294967296) (h2 : 0 ≤ b) (h3 : b < 4294967296) :
    Calls Try.prog 27 #[.int .u32 a, .int .u32 b] W fun e W' => e = .returned (.int .u64 (a * 4294967296 + b)) ∧ W = W' := by
  have HA : Hid (bits .or .u64 (a * 4294967296) b = a * 4294967296 + b) := or_low a b h0 h1 h2 h3
  go_enter Try.func27, Try.ntmps27
  go_wp2_with fail
  go_ret
  exact ⟨ret_int HA.out, rfl⟩

theorem split_any (w : Int) (W : World) (h0 : 0 ≤ w) (h1 : w < 18446744073709551616) :
    Calls Try.prog 62 #[.int .u64 w] W fun e W' => e = .returned (.tuple #[.int .u32 (hiI w), .int .u32 (loI w)]) ∧ ∃ n, W' = W.drewN n := by
  have hh := hiI_bound h0 h1
  have hl := loI_bound w
  obtain ⟨hh0, hh1⟩ := hh
  obtain ⟨hl0, hl1⟩ := hl
  go_enter Try.func62, Try.ntmps62
  go_wp2_with fail
  refine (part_32 _ _ h0 h1).mono ?_; rintro e W' ⟨rfl, n, rfl⟩
  go_wp2_with fail
  go_ret2
  exact ⟨rfl, n, rfl⟩

/-- A head that is turned. -/
def turnI (w low : Int) : Int := (hiI w + 1) % 4294967296 * 4294967296 + low

theorem turn_any (w low : Int) (W : World) (h0 : 0 ≤ w) (h1 : w < 18446744073709551616) (h2 : 0 ≤ low) (h3 : low < 4294967296) :
    Calls Try.prog 68 #[.int .u64 w, .int .u32 low] W fun e W' => e = .returned (.int .u64 (turnI w low)) ∧ ∃ n, W' = W.drewN n := by
  go_enter Try.func68, Try.ntmps68
  go_wp2_with fail
  refine (split_any _ _ h0 h1).mono ?_; rintro e W' ⟨rfl, n, rfl⟩
  go_wp2_with fail
  refine (pair_any _ _ _ (by omega) (by omega) h2 h3).mono ?_; rintro e W' ⟨rfl, rfl⟩
  go_wp2_with fail
  go_ret
  exact ⟨rfl, n, rfl⟩

theorem turnI_bound {w low : Int} (h2 : 0 ≤ low) (h3 : low < 4294967296) : 0 ≤ turnI w low ∧ turnI w low < 18446744073709551616 := by
  unfold turnI; omega

/-- How far ahead, round the end. -/
def aheadI (a b : Int) : Int := (a - b + 9223372036854775808) % 18446744073709551616 - 9223372036854775808

end Go.Proofs.Ytchlbdfapgeebaa

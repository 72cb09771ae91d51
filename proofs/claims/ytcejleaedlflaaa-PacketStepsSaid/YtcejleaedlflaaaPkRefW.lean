/- The document's words: halves, and pairs: walked. -/
import Derived.Test.YtcejleaedlflaaaPkRefM
import Derived.Test.YtcejleaedlflaaaPkA
namespace Go.Proofs.Ytcejleaedlflaaa
open Go.RowKit

theorem u32_in {x : Int} (h0 : 0 ≤ x) (h1 : x < 4294967296) : IntKind.u32.wrap x = x := by rw [IntKind.wrap_u32]; omega
theorem u64_in {x : Int} (h0 : 0 ≤ x) (h1 : x < 18446744073709551616) : IntKind.u64.wrap x = x := by rw [IntKind.wrap_u64]; omega

theorem low_ref (x : Int) (w : World) (hx : U x) :
    Calls Try.prog 78 #[.int .u64 x] w fun e w' => e = .returned (.int .u32 (loI x)) ∧ w = w' := by
  obtain ⟨h0, h1⟩ := hx
  have hl := loI_bound x
  have y0 : x.tmod 4294967296 = loI x := by rw [Int.tmod_eq_emod_of_nonneg h0]; rfl
  have y1 : IntKind.u64.wrap (loI x) = loI x := u64_in (by omega) (by omega)
  have y2 : IntKind.u32.wrap (loI x) = loI x := u32_in (by omega) (by omega)
  go_enter Try.func78, Try.ntmps78
  go_wp2_with fail
  go_ret
  exact ⟨rfl, rfl⟩

theorem high_ref (x : Int) (w : World) (hx : U x) :
    Calls Try.prog 92 #[.int .u64 x] w fun e w' => e = .returned (.int .u32 (hiI x)) ∧ w = w' := by
  obtain ⟨h0, h1⟩ := hx
  have hl := hiI_bound h0 (by omega)
  have y0 : x.tdiv 4294967296 = hiI x := by rw [Int.tdiv_eq_ediv_of_nonneg h0]; rfl
  have y1 : IntKind.u64.wrap (hiI x) = hiI x := u64_in (by omega) (by omega)
  have y2 : IntKind.u32.wrap (hiI x) = hiI x := u32_in (by omega) (by omega)
  go_enter Try.func92, Try.ntmps92
  go_wp2_with fail
  go_ret
  exact ⟨rfl, rfl⟩

theorem pair_ref (a b : Int) (w : World) (ha : 0 ≤ a ∧ a < 4294967296) (hb : 0 ≤ b ∧ b < 4294967296) :
    Calls Try.prog 91 #[.int .u32 a, .int .u32 b] w fun e w' => e = .returned (.int .u64 (a * 4294967296 + b)) ∧ w = w' := by
  have y1 : IntKind.u64.wrap a = a := u64_in (by omega) (by omega)
  have y2 : IntKind.u64.wrap b = b := u64_in (by omega) (by omega)
  have y3 : IntKind.u64.wrap (a * 4294967296) = a * 4294967296 := u64_in (by omega) (by omega)
  have y4 : IntKind.u64.wrap (a * 4294967296 + b) = a * 4294967296 + b := u64_in (by omega) (by omega)
  go_enter Try.func91, Try.ntmps91
  go_wp2_with fail
  go_ret
  exact ⟨rfl, rfl⟩

end Go.Proofs.Ytcejleaedlflaaa

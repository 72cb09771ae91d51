/- Each step of a packet's machine is the document's: of any kind. -/
import Derived.Test.YtcejleaedlflaaaPkSt11p
import Derived.Test.YtcejleaedlflaaaPkSt11t
import Derived.Test.YtcejleaedlflaaaPkSt11k
namespace Go.Proofs.Ytcejleaedlflaaa
open Go.RowKit

theorem steps11_any (c : Cfg) (kd : Int) (vt : Value) (ts : List Int) (p : Int) (vu : Value) (us : List Int) (vk : Value) (ps : List (Int × Int)) (w : World) (hb : 0 ≤ kd ∧ kd ≤ 255) (ht : Words w vt ts) (_hp : -9223372036854775808 ≤ p ∧ p ≤ 9223372036854775807) (hu : Words w vu us) (hk : Pokes w vk ps) :
    Calls Try.prog 4 #[.agg #[.int .i64 c.c0, .int .i64 c.c1, .int .i64 c.c2, .int .i64 c.c3, .int .i64 c.c4, .int .i64 c.mks, .int .i64 c.mus, .int .i64 c.dq, .int .i64 c.ch, .int .i64 c.bu, .int .i64 c.ro, .int .i64 c.sw], .int .u8 kd, vt, .int .i64 p, vu, vk] w fun e w' => e = .returned (.bool true) ∧ Kept w w' := by
  cases h1 : (kd % 3 == 1)
  · cases h2 : (kd % 3 == 2)
    · exact steps11p c kd vt ts p vu us vk ps w hb h1 h2 ht hu hk
    · exact steps11k c kd vt ts p vu us vk ps w hb h1 h2 ht hu hk
  · have h2 : (kd % 3 == 2) = false := by
      have := eq_of_beq h1
      rw [this]; rfl
    exact steps11t c kd vt ts p vu us vk ps w hb h1 h2 ht hu hk

end Go.Proofs.Ytcejleaedlflaaa

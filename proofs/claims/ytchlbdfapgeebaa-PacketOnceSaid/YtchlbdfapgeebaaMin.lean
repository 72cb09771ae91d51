/- min and max of two integers as Lean's own, unparted. Import it where a walk shall not part on them. -/
import Derived.Test.YtchlbdfapgeebaaMem
namespace Go

@[go_sem high] theorem run_min_whole (P : Program) (w : World) (ts : Array TypeId) (t : TypeId) (k k' : IntKind) (x y : Int) : (Builtin.min_ ts t #[.int k x, .int k' y]).run P w = .ok (.int k (min x y)) w := by
  have : min x y = if y < x then y else x := by split <;> omega
  rw [this]; simp [Builtin.min_, Builtin.min2]

@[go_sem high] theorem run_max_whole (P : Program) (w : World) (ts : Array TypeId) (t : TypeId) (k k' : IntKind) (x y : Int) : (Builtin.max_ ts t #[.int k x, .int k' y]).run P w = .ok (.int k (max x y)) w := by
  have : max x y = if y > x then y else x := by split <;> omega
  rw [this]; simp [Builtin.max_, Builtin.max2]

end Go

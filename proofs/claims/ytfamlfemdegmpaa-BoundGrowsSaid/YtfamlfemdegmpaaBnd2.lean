/- The bounds' functions, walked. -/
import Derived.Test.YtfamlfemdegmpaaBnd1
namespace Go.Proofs.Ytfamlfemdegmpaa
open Go.RowKit

/-- How many slots each node has: the first k classes' nodes. -/
def roomsI (cs : List Int) (k : Nat) : List Int := (List.range k).flatMap fun (i : Nat) => List.replicate (cs[i]?.getD 0).toNat (slotsI i)

theorem roomsI_succ (cs : List Int) (k : Nat) : roomsI cs (k + 1) = roomsI cs k ++ List.replicate (cs[k]?.getD 0).toNat (slotsI k) := by
  unfold roomsI; rw [List.range_succ, List.flatMap_append]; simp

def okCells (cs : List Int) : Prop := cs.length = 5 ∧ ∀ k, k < 5 → 0 ≤ cs[k]?.getD 0 ∧ cs[k]?.getD 0 ≤ 12

theorem roomsI_len (cs : List Int) (h : okCells cs) : ∀ k, k ≤ 5 → (roomsI cs k).length ≤ 12 * k
  | 0, _ => by simp [roomsI]
  | k + 1, hk => by
    have := roomsI_len cs h k (by omega)
    have := h.2 k (by omega)
    rw [roomsI_succ]; simp; omega

theorem info_int : (Try.prog.info? 3).map (fun i => (i.zero, i.size, i.bytes)) = some (some (.int .i64 0), 1, 8) := by kernel_rfl

theorem index5 (a b c d e : Int) (k : Nat) (hk : k < 5) (w : World) :
    (Instr.index 22 (.agg #[.int .i64 a, .int .i64 b, .int .i64 c, .int .i64 d, .int .i64 e]) (.int .i64 k)).run Try.prog w = .ok (.int .i64 ([a, b, c, d, e][k]?.getD 0)) w := by
  have : k = 0 ∨ k = 1 ∨ k = 2 ∨ k = 3 ∨ k = 4 := by omega
  rcases this with rfl | rfl | rfl | rfl | rfl <;> first | rfl | (exact (by kernel_rfl))

theorem rooms_any (a b c d e : Int) (w : World) (hok : okCells [a, b, c, d, e]) :
    Calls Try.prog 20 #[.agg #[.int .i64 a, .int .i64 b, .int .i64 c, .int .i64 d, .int .i64 e]] w fun r w' =>
      ∃ v, r = .returned v ∧ w'.ownsRow w.heap.size 3 1 v (roomsI [a, b, c, d, e] 5).length ((roomsI [a, b, c, d, e] 5).map (Value.int .i64)) ∧ Kept w w' := by
  obtain ⟨i0, hi, hz0, hz1, hz2⟩ := info_parts info_int
  go_enter Try.func20, Try.ntmps20
  go_wp2_with fail
  generalize hcs : [a, b, c, d, e] = cs at *
  go_loopw [3, 7] (fun v i wr => ∃ k : Nat, k ≤ 5 ∧ i = .int .i64 k ∧ wr.ownsRow w.heap.size 3 1 v (roomsI cs k).length ((roomsI cs k).map (Value.int .i64)) ∧ Kept w wr) (fun _ i _ => 5 - (intOf i).toNat)
  case atStart => exact ⟨0, by omega, rfl, World.ownsRow_nil _ _ _ _, (Below.refl _ _).alloc (Nat.le_refl _) _⟩
  case round =>
    obtain ⟨k, hk, rfl, hown, hb⟩ := hrel
    by_cases hlti : (k : Int) < 5
    · have hlt : k < 5 := by omega
      have hidx := fun W => index5 a b c d e k hlt W
      rw [hcs] at hidx
      have hrange := hok.2 k hlt
      obtain ⟨hr0, hr1⟩ := hrange
      have hlen := roomsI_len cs hok k hk
      go_wp2_with fail
      have hR : cs[k]?.getD 0 = cs[k]?.getD 0 := rfl
      obtain ⟨m, hm⟩ : ∃ m : Nat, cs[k]?.getD 0 = m := ⟨(cs[k]?.getD 0).toNat, by omega⟩
      have HM : Hid (cs[k]?.getD 0 = m) := hm
      rw [hm] at hr0 hr1 ⊢
      clear hm hidx hR
      go_loopw [3, 12] (fun v j wx => ∃ q : Nat, q ≤ m ∧ j = .int .i64 q ∧ wx.ownsRow w.heap.size 3 1 v ((roomsI cs k).length + q) ((roomsI cs k ++ List.replicate q (slotsI k)).map (Value.int .i64)) ∧ Kept w wx) (fun _ j _ => m - (intOf j).toNat)
      case atStart => exact ⟨0, by omega, rfl, by simpa using hown, hb⟩
      case round =>
        obtain ⟨q, hq, rfl, hown2, hb2⟩ := hrel
        by_cases hlt2 : (q : Int) < m
        · go_wp2_with fail
          refine (slots_any _ _).mono ?_; rintro r w3 ⟨rfl, rfl⟩
          go_wp2_with (at_builtin; refine wpList_append_own _ rfl _ _ 38 rfl w.heap.size 3 i0 (.int .i64 0) 1 8 Try.underlying38 hi hz0 hz1 hz2 rfl (by decide) _ _ _ rfl (hown2.alloc _) ⟨wr.heap.size, 0, none⟩ 1 1 [.int .i64 (slotsI k)] rfl rfl ?c1 ?c2 ?c3 ?c4 ?c5 ?_)
          case c1 => intro j u hj; match j, hj with | 0, hj => simp at hj; subst hj; simp [Addr.add]
          case c2 => intro u hu; simp at hu; subst hu; rfl
          case c3 => unfold maxLen; omega
          case c4 => omega
          case c5 => have := hb2.size; simp; omega
          intro v' w1 hown' hgrow _
          go_wp2
          go_roundw
          case rel =>
            refine ⟨q + 1, by omega, by go_num, ?_, ?_⟩
            · rw [List.replicate_succ', ← List.append_assoc, List.map_append]
              simpa [Nat.add_assoc] using hown'
            · exact (hb2.alloc (by have := hb2.size; omega) _).grown hgrow (by have := hb2.size; simp; omega) (fun g hg => (ownsRow_base hown2 g hg).1)
          case measure => simp [intOf]; omega
        · obtain rfl : q = m := by omega
          go_wp2
          go_roundw
          case rel =>
            refine ⟨k + 1, by omega, by go_num, ?_, hb2⟩
            rw [roomsI_succ, HM.out]; simpa using hown2
          case measure => simp [intOf]; omega
    · obtain rfl : k = 5 := by omega
      go_wp2_with fail
      go_ret
      exact ⟨_, rfl, hown, hb⟩

end Go.Proofs.Ytfamlfemdegmpaa

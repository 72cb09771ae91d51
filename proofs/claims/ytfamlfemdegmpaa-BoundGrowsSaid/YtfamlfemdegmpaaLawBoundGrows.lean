/- For every configuration and every number, BoundGrows returns true and leaves what it was handed as it was. No condition. -/
import Derived.Test.YtfamlfemdegmpaaRow
import Derived.Test.YtfamlfemdegmpaaGrow2
namespace Go.Proofs.Ytfamlfemdegmpaa
open Go.ChangeShapes Go.WideShapes Go.ChangeAt Go.RowKit

theorem grows_any (c : Cfg) (k : Int) (w : World) (h0 : 0 ≤ k) (h1 : k ≤ 255) :
    Calls Try.prog 4 #[.agg #[.int .i64 c.c0, .int .i64 c.c1, .int .i64 c.c2, .int .i64 c.c3, .int .i64 c.c4, .int .i64 c.mks, .int .i64 c.mus, .int .i64 c.dq, .int .i64 c.ch, .int .i64 c.bu, .int .i64 c.ro, .int .i64 c.sw], .int .u8 k] w fun r w' => r = .returned (.bool true) ∧ Kept w w' := by
  by_cases hg : Good c
  · rcases (by omega : k % 5 = 0 ∨ k % 5 = 1 ∨ k % 5 = 2 ∨ k % 5 = 3 ∨ k % 5 = 4) with h | h | h | h | h
    · exact grows_0 c k w hg h0 h1 h
    · exact grows_1 c k w hg h0 h1 h
    · exact grows_2 c k w hg h0 h1 h
    · exact grows_3 c k w hg h0 h1 h
    · exact grows_4 c k w hg h0 h1 h
  · exact grows_no c k w hg

set_option maxRecDepth 100000 in
theorem grows_lifted (os : Os) (started : os.Started) (H : Type) (enc : TypeId × Value → H) :
    ReturnsInHanded {} Try.checked os 4 .any (Rows.boundGrowsSpec.pre6 enc Try.prog Try.f4 Rows.boundGrowsRow.domain false) (Rows.boundGrowsSpec.post enc Try.prog Try.f4 false true false false) := by
  refine returnsInHanded_of_change (C := Try.checked) Try.own started (by kernel_rfl) Try.func4
    (ChangeSpec.witness6 (enc := enc) (C := Try.checked) false ⟨#[], #[.agg #[.int .i64 0, .int .i64 0, .int .i64 0, .int .i64 0, .int .i64 0, .int .i64 0, .int .i64 0, .int .i64 0, .int .i64 0, .int .i64 0, .int .i64 0, .int .i64 0], .int .u8 0], []⟩ 8 (by kernel_rfl) (by kernel_rfl) (by kernel_rfl) (by kernel_rfl)) ?_
  intro W base args ds gs before hval0 hW _ _
  have hval : ∀ (j : Nat) t v, Try.f4.params[j]? = some t → args[j]? = some v → Value.okWide Try.prog W .any base t v := hval0
  have hW' := hW
  obtain ⟨p, q, hA0, hV, rfl, hfz, hnd⟩ := hW
  have hA : DataW.TrodAll enc Try.prog W 0 (fun _ => true) true Try.f4.params.toList args.toList ds p := hA0
  rw [Try.params4] at hA hval
  obtain ⟨v0, v1, d0, d1, p0, p1, rfl, rfl, rfl, h0, h1⟩ := trodAll_two hA
  obtain ⟨rfl, rfl⟩ := trodVars_none hV
  obtain ⟨a, b, c, d, e, f, g, i, j, k, m, n, rfl⟩ := open_cfg (hval 0 _ v0 rfl rfl)
  obtain ⟨x, rfl, rfl, rfl, wx⟩ := open_int Try.underlying5 (hval 1 _ v1 rfl rfl) h1
  have hx : 0 ≤ x ∧ x ≤ 255 := by have := wx; simp only [Lit.wf, Bool.and_eq_true, decide_eq_true_eq] at this; exact this
  clear hA0 hval0 hval
  simp only [List.append_nil] at hW'
  refine (grows_any ⟨a, b, c, d, e, f, g, i, j, k, m, n⟩ x W hx.1 hx.2).mono fun e W' ⟨he, hw⟩ => ?_
  subst he
  have hlt := hW'.lt
  refine ⟨_, rfl, _, _, _, [], p0 ++ [], [], hW', ?_, ?_, ?_, Below.frame hw _, fun h => by cases h⟩
  · exact trodAll_mk1 (shut_bool Try.underlying4 true)
  · exact trodAll_mk2 (Below.trod Try.laidOut (by kernel_rfl) (of_decide_eq_true (by kernel_rfl)) h0 hw (fun x hx => by simpa using hlt x (by simp [hx])))
      (shut_int Try.underlying5 wx)
  · rfl

theorem grows_holds : Rows.BoundGrowsSaid :=
  OpenClaim.holds_of_wide 4 Try.f4 rfl rfl rfl rfl rfl rfl rfl ⟨rfl, rfl, rfl, rfl, rfl⟩ rfl rfl rfl rfl rfl (by kernel_rfl) Try.func4 (by kernel_rfl)
    (of_decide_eq_true (by kernel_rfl)) (by unfold Func.isWrapper; rw [if_neg (of_decide_eq_false (by kernel_rfl))]; exact ⟨rfl, rfl⟩)
    (fun os started H enc _ => grows_lifted os started H enc)

end Go.Proofs.Ytfamlfemdegmpaa

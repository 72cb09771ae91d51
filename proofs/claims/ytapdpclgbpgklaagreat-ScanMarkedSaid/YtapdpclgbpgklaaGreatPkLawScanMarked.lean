/- For every input, ScanMarked returns true and leaves what it was handed as it was. No condition. -/
import Derived.Test.YtapdpclgbpgklaaGreatPkMarked14
import Derived.Test.YtapdpclgbpgklaaGreatPkM
namespace Go.Proofs.YtapdpclgbpgklaaGreat
open Go.ChangeShapes Go.WideShapes Go.ChangeAt Go.RowKit

set_option maxRecDepth 100000 in
theorem scanMarked_lifted (os : Os) (started : os.Started) (H : Type) (enc : TypeId × Value → H) :
    ReturnsInHanded {} Tryz.checked os 5 .any (Rows.scanMarkedSpec.pre6 enc Tryz.prog Tryz.f5 Rows.scanMarkedRow.domain false) (Rows.scanMarkedSpec.post enc Tryz.prog Tryz.f5 false true false false) := by
  refine returnsInHanded_of_change (C := Tryz.checked) Tryz.own started (by kernel_rfl) Tryz.func5
    (ChangeSpec.witness6 (enc := enc) (C := Tryz.checked) false ⟨#[], #[.agg #[.int .i64 0, .int .i64 0, .int .i64 0, .int .i64 0, .int .i64 0, .int .i64 0, .int .i64 0, .int .i64 0, .int .i64 0, .int .i64 0, .int .i64 0, .int .i64 0], .int .u8 0, .slice none 0 0, .slice none 0 0], []⟩ 8 (by kernel_rfl) (by kernel_rfl) (by kernel_rfl) (by kernel_rfl)) ?_
  intro W base args ds gs before hval0 hW _ _
  have hval : ∀ (j : Nat) t v, Tryz.f5.params[j]? = some t → args[j]? = some v → Value.okWide Tryz.prog W .any base t v := hval0
  have hW' := hW
  obtain ⟨p, q, hA0, hV, rfl, hfz, hnd⟩ := hW
  have hA : DataW.TrodAll enc Tryz.prog W 0 (fun _ => true) true Tryz.f5.params.toList args.toList ds p := hA0
  rw [Tryz.params5] at hA hval
  obtain ⟨v0, v1, v2, v3, d0, d1, d2, d3, p0, p1, p2, p3, rfl, rfl, rfl, h0, h1, h2, h3⟩ := trodAll_four hA
  obtain ⟨rfl, rfl⟩ := trodVars_none hV
  obtain ⟨a, b, c, d, e, f, g, i, j, k, m, n, rfl⟩ := open_cfg (hval 0 _ v0 rfl rfl)
  obtain ⟨x1, rfl, hd1, hp1, hw1⟩ := open_int Tryz.underlying5 (hval 1 _ v1 rfl rfl) h1
  obtain ⟨ts2, hts2⟩ := open_words (hval 2 _ v2 rfl rfl) h2
  obtain ⟨zs3, hzs3, hzb3⟩ := open_u8s (hval 3 _ v3 rfl rfl) h3
  clear hA0 hval0 hval
  simp only [List.append_nil] at hW'
  refine (marked14_any ⟨a, b, c, d, e, f, g, i, j, k, m, n⟩ x1 v2 ts2 v3 zs3 W (bounds_u8 hw1) hts2.reads hts2.1 hzs3 hzb3).mono fun e W' ⟨he, hw⟩ => ?_
  subst he
  have hlt := hW'.lt
  refine ⟨_, rfl, _, _, _, [], p0 ++ (p1 ++ (p2 ++ p3)), [], by simpa [List.append_assoc] using hW', ?_, ?_, ?_, Below.frame hw _, fun h => by cases h⟩
  · exact trodAll_mk1 (shut_bool Tryz.underlying4 true)
  · exact trodAll_mk4 (Below.trod Tryz.laidOut (by kernel_rfl) (of_decide_eq_true (by kernel_rfl)) h0 hw (fun x hx => by simpa using hlt x (by simp [hx])))
      (Below.trod Tryz.laidOut (by kernel_rfl) (of_decide_eq_true (by kernel_rfl)) h1 hw (fun x hx => by simpa using hlt x (by simp [hx])))
      (Below.trod Tryz.laidOut (by kernel_rfl) (of_decide_eq_true (by kernel_rfl)) h2 hw (fun x hx => by simpa using hlt x (by simp [hx])))
      (Below.trod Tryz.laidOut (by kernel_rfl) (of_decide_eq_true (by kernel_rfl)) h3 hw (fun x hx => by simpa using hlt x (by simp [hx])))
  · rfl

theorem scanMarked_holds : Rows.ScanMarkedSaid :=
  OpenClaim.holds_of_wide 5 Tryz.f5 rfl rfl rfl rfl rfl rfl rfl ⟨rfl, rfl, rfl, rfl, rfl⟩ rfl rfl rfl rfl rfl (by kernel_rfl) Tryz.func5 (by kernel_rfl)
    (of_decide_eq_true (by kernel_rfl)) (by unfold Func.isWrapper; rw [if_neg (of_decide_eq_false (by kernel_rfl))]; exact ⟨rfl, rfl⟩)
    (fun os started H enc _ => scanMarked_lifted os started H enc)

end Go.Proofs.YtapdpclgbpgklaaGreat

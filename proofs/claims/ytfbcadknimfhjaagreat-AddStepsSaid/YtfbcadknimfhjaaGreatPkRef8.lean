/- The document's deque: its machine, as far as it pushes: walked. -/
import Derived.Test.YtfbcadknimfhjaaGreatPkR
import Derived.Test.YtfbcadknimfhjaaGreatPkRef9
import Derived.Test.YtfbcadknimfhjaaGreatPkQ
import Derived.Test.YtfbcadknimfhjaaGreatPkU
import Derived.Deep.QuietTactic
import Derived.BigQuiet
namespace Go.Proofs.YtfbcadknimfhjaaGreat
open Go.RowKit

abbrev r8L (kind pc tp bt en rm b t wd : Int) (won : Bool) (out : Int) : List Value := [.int .i64 kind, .int .i64 pc, .int .i64 tp, .int .i64 bt, .int .i64 en, .int .i64 rm, .int .u64 b, .int .u64 t, .int .u64 wd, .bool won, .int .i64 out]

/-- The document's machine, as a value. -/
def r8V (e : DEnds) (d : DQ) : List Value := match d.pc with
  | .done => r8L 1 0 0 0 0 0 0 0 0 false d.out
  | .pushBottom => r8L 1 1 e.tp e.bt e.en e.rm d.b d.t d.wd false 0
  | .pushTop => r8L 1 2 e.tp e.bt e.en e.rm d.b d.t d.wd false 0
  | .pushEntry => r8L 1 3 e.tp e.bt e.en e.rm d.b d.t d.wd false 0
  | .pushEnd => r8L 1 4 e.tp e.bt e.en e.rm d.b d.t d.wd false 0

/-- A machine that pushes, or is finished. -/
def DQ.push (d : DQ) : Prop := d.pc = .done ∨ d.pc = .pushBottom ∨ d.pc = .pushTop ∨ d.pc = .pushEntry ∨ d.pc = .pushEnd

theorem ahead8_ref (a b : Int) (w : World) (ha : U a) (hb : U b) :
    Calls Tryz.prog 93 #[.int .u64 a, .int .u64 b] w fun e w' => e = .returned (.int .i64 (aheadI a b)) ∧ w = w' := by
  obtain ⟨a0, a1⟩ := ha
  obtain ⟨b0, b1⟩ := hb
  obtain ⟨x, hx⟩ : ∃ x, (a - b) % 18446744073709551616 = x := ⟨_, rfl⟩
  have y1 : IntKind.u64.wrap (a - b) = x := by rw [IntKind.wrap_u64, hx]
  have x0 : 0 ≤ x := by omega
  have x1 : x < 18446744073709551616 := by omega
  by_cases h : x < 9223372036854775808
  · have HA : Hid (aheadI a b = x) := by unfold Hid aheadI; omega
    have y2 : IntKind.i64.wrap x = x := IntWalk.i64_in _ (by omega)
    rw [HA.out]
    clear hx
    go_enter Tryz.func93, Tryz.ntmps93
    go_wp2_with fail
    go_ret
    exact ⟨rfl, rfl⟩
  · have HA : Hid (aheadI a b = -(18446744073709551615 - x) - 1) := by unfold Hid aheadI; omega
    have y2 : IntKind.u64.wrap (18446744073709551615 - x) = 18446744073709551615 - x := by rw [IntKind.wrap_u64]; omega
    have y3 : IntKind.i64.wrap (18446744073709551615 - x) = 18446744073709551615 - x := IntWalk.i64_in _ (by omega)
    have y4 : IntKind.i64.wrap (-(18446744073709551615 - x)) = -(18446744073709551615 - x) := IntWalk.i64_in _ (by omega)
    have y5 : IntKind.i64.wrap (-(18446744073709551615 - x) - 1) = -(18446744073709551615 - x) - 1 := IntWalk.i64_in _ (by omega)
    rw [HA.out]
    clear hx
    go_enter Tryz.func93, Tryz.ntmps93
    go_wp2_with fail
    go_ret
    exact ⟨rfl, rfl⟩

theorem room8_ref (e : DEnds) (w : World) (he : e.ok) :
    Calls Tryz.prog 94 #[.agg #[.int .i64 e.tp, .int .i64 e.bt, .int .i64 e.en, .int .i64 e.rm]] w fun r w' => r = .returned (.int .u64 (max e.rm 1)) ∧ Kept w w' := by
  obtain ⟨_, r0, r1⟩ := he
  have hk : Kept w (w.alloc (.cells ([.int .i64 e.tp, .int .i64 e.bt, .int .i64 e.en, .int .i64 e.rm] : List Value).toArray 47)) := (Below.refl _ _).alloc (Nat.le_refl _) _
  by_cases h : e.rm < 1
  · have HM : Hid (max e.rm 1 = 1) := by unfold Hid; omega
    rw [HM.out]
    go_enter Tryz.func94, Tryz.ntmps94
    go_wp2_with fail
    go_ret
    exact ⟨rfl, hk⟩
  · have HM : Hid (max e.rm 1 = e.rm) := by unfold Hid; omega
    have y : IntKind.u64.wrap e.rm = e.rm := by rw [IntKind.wrap_u64]; omega
    rw [HM.out]
    go_enter Tryz.func94, Tryz.ntmps94
    go_wp2_with fail
    go_ret
    exact ⟨rfl, hk⟩

theorem entry8_ref (e : DEnds) (x : Int) (w : World) (he : e.ok) (hx : U x) :
    Calls Tryz.prog 96 #[.agg #[.int .i64 e.tp, .int .i64 e.bt, .int .i64 e.en, .int .i64 e.rm], .int .u64 x] w fun r w' => r = .returned (.int .i64 (entI e x)) ∧ Kept w w' := by
  have He : Hid e.ok := he
  obtain ⟨⟨n0, n1⟩, ⟨r0, r1⟩⟩ := he
  obtain ⟨x0, x1⟩ := hx
  have hb := Blk.new w 47 [.int .i64 e.tp, .int .i64 e.bt, .int .i64 e.en, .int .i64 e.rm]
  have hk : Kept w (w.alloc (.cells ([.int .i64 e.tp, .int .i64 e.bt, .int .i64 e.en, .int .i64 e.rm] : List Value).toArray 47)) := (Below.refl _ _).alloc (Nat.le_refl _) _
  obtain ⟨mx, hmx⟩ : ∃ mx : Int, max e.rm 1 = mx := ⟨_, rfl⟩
  have m0 : 0 < mx := by omega
  have m1 : mx ≤ 100 := by omega
  have mz : ¬ mx = 0 := by omega
  have y2 : x.tmod mx = x % mx := Int.tmod_eq_emod_of_nonneg x0
  have z0 : 0 ≤ x % mx := Int.emod_nonneg _ mz
  have z1 : x % mx < mx := Int.emod_lt_of_pos _ m0
  have HE : Hid (entI e x = e.en + x % mx) := by unfold Hid entI; rw [hmx]
  have HMX : Hid (max e.rm 1 = mx) := hmx
  clear hmx
  generalize hz : x % mx = z at *
  have y3 : IntKind.i64.wrap z = z := IntWalk.i64_in _ (by omega)
  have y4 : IntKind.i64.wrap (e.en + z) = e.en + z := IntWalk.i64_in _ (by omega)
  rw [HE.out]
  go_enter Tryz.func96, Tryz.ntmps96
  go_wp2_with fail
  generalize w.alloc (.cells ([.int .i64 e.tp, .int .i64 e.bt, .int .i64 e.en, .int .i64 e.rm] : List Value).toArray 47) = w1 at *
  have hbD := hb.drew
  have g0 := hb.cell 0
  have g1 := hb.cell 1
  have g2 := hb.cell 2
  have g3 := hb.cell 3
  have d0 := hbD.cell 0
  have d1 := hbD.cell 1
  have d2 := hbD.cell 2
  have d3 := hbD.cell 3
  simp only [List.getElem?_cons_zero, List.getElem?_cons_succ] at g0 g1 g2 g3 d0 d1 d2 d3
  have hkD : Kept w w1.drew := hk.drew
  refine wp_region_z 99 (fun w' => w'.cell? ⟨w.heap.size, 0, none⟩ = some (.int .i64 e.tp) ∧ w'.cell? ⟨w.heap.size, 1, none⟩ = some (.int .i64 e.bt) ∧ w'.cell? ⟨w.heap.size, 2, none⟩ = some (.int .i64 e.en) ∧ w'.cell? ⟨w.heap.size, 3, none⟩ = some (.int .i64 e.rm)) (by kernel_rfl) ?_
  refine wpAnyZ_takeN (i := 0) (v := ?v0z1) rfl (by kernel_rfl) (by kernel_rfl) (by kernel_rfl) (by kernel_rfl) (fun _ _ _ h => h) (Or.inl ⟨by rfl, ?hy0z1⟩) ⟨d0,d1,d2,d3⟩ ?_
  case hy0z1 => intro w hSw; (try dsimp only at hSw); first | (go_simp; done) | (go_simp; with_reducible rfl)
  try simp only [Act.put, List.getElem_toArray, List.getElem_cons_zero, List.setIfInBounds_toArray, List.set_cons_zero, List.set_cons_succ]
  refine wpAnyZ_takeN (i := 1) (v := ?v1z1) rfl (by kernel_rfl) (by kernel_rfl) (by kernel_rfl) (by kernel_rfl) (fun _ _ _ h => h) (Or.inl ⟨by rfl, ?hy1z1⟩) ⟨d0,d1,d2,d3⟩ ?_
  case hy1z1 => intro w hSw; (try dsimp only at hSw); first | (go_simp; done) | (go_simp; with_reducible rfl)
  try simp only [Act.put, List.getElem_toArray, List.getElem_cons_zero, List.getElem_cons_succ, List.setIfInBounds_toArray, List.set_cons_zero, List.set_cons_succ]
  refine wpAnyZ_takeN (i := 2) (v := ?v2z1) rfl (by kernel_rfl) (by kernel_rfl) (by kernel_rfl) (by kernel_rfl) (fun _ _ _ h => h) (Or.inl ⟨by rfl, ?hy2z1⟩) ⟨d0,d1,d2,d3⟩ ?_
  case hy2z1 => intro w hSw; (try dsimp only at hSw); first | (go_simp; done) | (go_simp; with_reducible rfl)
  try simp only [Act.put, List.getElem_toArray, List.getElem_cons_zero, List.getElem_cons_succ, List.setIfInBounds_toArray, List.set_cons_zero, List.set_cons_succ]
  refine wpAnyZ_takeN (i := 3) (v := ?v3z1) rfl (by kernel_rfl) (by kernel_rfl) (by kernel_rfl) (by kernel_rfl) (fun _ _ _ h => h) (Or.inl ⟨by rfl, ?hy3z1⟩) ⟨d0,d1,d2,d3⟩ ?_
  case hy3z1 => intro w hSw; (try dsimp only at hSw); first | (go_simp; done) | (go_simp; with_reducible rfl)
  try simp only [Act.put, List.getElem_toArray, List.getElem_cons_zero, List.getElem_cons_succ, List.setIfInBounds_toArray, List.set_cons_zero, List.set_cons_succ]
  refine wpAnyZ_one (i := 4) (by kernel_rfl) rfl (fun K hK => ?_)
  go_simp
  go_at_call 94
  refine (room8_ref e _ He.out).mono ?_; rintro r w5 ⟨rfl, hkc⟩
  rw [HMX.out]
  have hb5 := hkc.blk hbD
  have hk5 := Kept.trans' hkD hkc
  have e0 := hb5.cell 0
  have e1 := hb5.cell 1
  have e2 := hb5.cell 2
  have e3 := hb5.cell 3
  simp only [List.getElem?_cons_zero, List.getElem?_cons_succ] at e0 e1 e2 e3
  refine hK.out _ _ (fun _ => ⟨e0,e1,e2,e3⟩) ?_
  clear hK K
  try simp only [Act.put, List.setIfInBounds_toArray, List.set_cons_zero, List.set_cons_succ]
  refine wpAnyZ_takeN (i := 5) (v := ?v5z2) rfl (by kernel_rfl) (by kernel_rfl) (by kernel_rfl) (by kernel_rfl) (fun _ _ _ h => h) (Or.inl ⟨by rfl, ?hy5z2⟩) ⟨e0,e1,e2,e3⟩ ?_
  case hy5z2 => intro w hSw; (try dsimp only at hSw); first | (go_simp; done) | (go_simp; with_reducible rfl)
  try simp only [Act.put, List.getElem_toArray, List.getElem_cons_zero, List.getElem_cons_succ, List.setIfInBounds_toArray, List.set_cons_zero, List.set_cons_succ]
  refine wpAnyZ_takeN (i := 6) (v := ?v6z2) rfl (by kernel_rfl) (by kernel_rfl) (by kernel_rfl) (by kernel_rfl) (fun _ _ _ h => h) (Or.inl ⟨by rfl, ?hy6z2⟩) ⟨e0,e1,e2,e3⟩ ?_
  case hy6z2 => intro w hSw; (try dsimp only at hSw); first | (go_simp; done) | (go_simp; with_reducible rfl)
  try simp only [Act.put, List.getElem_toArray, List.getElem_cons_zero, List.getElem_cons_succ, List.setIfInBounds_toArray, List.set_cons_zero, List.set_cons_succ]
  refine wpAnyZ_takeN (i := 7) (v := ?v7z2) rfl (by kernel_rfl) (by kernel_rfl) (by kernel_rfl) (by kernel_rfl) (fun _ _ _ h => h) (Or.inl ⟨by rfl, ?hy7z2⟩) ⟨e0,e1,e2,e3⟩ ?_
  case hy7z2 => intro w hSw; (try dsimp only at hSw); first | (go_simp; done) | (go_simp; with_reducible rfl)
  try simp only [Act.put, List.getElem_toArray, List.getElem_cons_zero, List.getElem_cons_succ, List.setIfInBounds_toArray, List.set_cons_zero, List.set_cons_succ]
  refine wpAnyZ_takeN (i := 8) (v := ?v8z2) rfl (by kernel_rfl) (by kernel_rfl) (by kernel_rfl) (by kernel_rfl) (fun _ _ _ h => h) (Or.inl ⟨by rfl, ?hy8z2⟩) ⟨e0,e1,e2,e3⟩ ?_
  case hy8z2 => intro w hSw; (try dsimp only at hSw); first | (go_simp; done) | (go_simp; with_reducible rfl)
  try simp only [Act.put, List.getElem_toArray, List.getElem_cons_zero, List.getElem_cons_succ, List.setIfInBounds_toArray, List.set_cons_zero, List.set_cons_succ]
  refine wpAnyZ_done (by kernel_rfl) ?_ _
  clear d0 d1 d2 d3 e0 e1 e2 e3 g0 g1 g2 g3
  go_wp2_with fail
  go_ret
  exact ⟨rfl, hk5⟩

set_option maxRecDepth 8000 in
theorem end8_ref (kind pc tp bt en rm b t wd : Int) (won : Bool) (out o x : Int) (w : World) :
    Calls Tryz.prog 95 #[.agg (r8L kind pc tp bt en rm b t wd won out).toArray, .int .i64 o, .int .u64 x] w fun r w' => r = .returned (.agg (r8L kind 0 0 0 0 0 0 0 x false o).toArray) ∧ Kept w w' := by
  have hb0 := Blk.new w 49 [.int .i64 (kind), .int .i64 (pc), .int .i64 (tp), .int .i64 (bt), .int .i64 (en), .int .i64 (rm), .int .u64 (b), .int .u64 (t), .int .u64 (wd), .bool (won), .int .i64 (out)]
  have hk0 : Kept w (w.alloc (.cells ([.int .i64 (kind), .int .i64 (pc), .int .i64 (tp), .int .i64 (bt), .int .i64 (en), .int .i64 (rm), .int .u64 (b), .int .u64 (t), .int .u64 (wd), .bool (won), .int .i64 (out)] : List Value).toArray 49)) := (Below.refl _ _).alloc (Nat.le_refl _) _
  have z0 : (w.alloc (.cells ([.int .i64 (kind), .int .i64 (pc), .int .i64 (tp), .int .i64 (bt), .int .i64 (en), .int .i64 (rm), .int .u64 (b), .int .u64 (t), .int .u64 (wd), .bool (won), .int .i64 (out)] : List Value).toArray 49)).heap.size = w.heap.size + 1 := by simp
  go_enter Tryz.func95, Tryz.ntmps95
  go_wp2_with fail
  generalize w.alloc (.cells ([.int .i64 (kind), .int .i64 (pc), .int .i64 (tp), .int .i64 (bt), .int .i64 (en), .int .i64 (rm), .int .u64 (b), .int .u64 (t), .int .u64 (wd), .bool (won), .int .i64 (out)] : List Value).toArray 49) = w1 at *
  have hb := hb0
  have hk : Kept w w1 := hk0
  clear hb0 hk0 
  have zN : w1.heap.size = w.heap.size + 1 := z0
  clear z0
  have hr9 := Blk.new w1 49 [.int .i64 (kind), .int .i64 (0), .int .i64 (0), .int .i64 (0), .int .i64 (0), .int .i64 (0), .int .u64 (0), .int .u64 (0), .int .u64 (x), .bool (false), .int .i64 (o)]
  rw [zN] at hr9
  have hk9 : Kept w (w1.alloc (.cells ([.int .i64 (kind), .int .i64 (0), .int .i64 (0), .int .i64 (0), .int .i64 (0), .int .i64 (0), .int .u64 (0), .int .u64 (0), .int .u64 (x), .bool (false), .int .i64 (o)] : List Value).toArray 49)) := hk.trans' ((Below.refl _ _).alloc (Nat.le_refl _) _)
  generalize w1.alloc (.cells ([.int .i64 (kind), .int .i64 (0), .int .i64 (0), .int .i64 (0), .int .i64 (0), .int .i64 (0), .int .u64 (0), .int .u64 (0), .int .u64 (x), .bool (false), .int .i64 (o)] : List Value).toArray 49) = w99 at *
  exact bodyPost_ret (v := .agg ([.int .i64 (kind), .int .i64 (0), .int .i64 (0), .int .i64 (0), .int .i64 (0), .int .i64 (0), .int .u64 (0), .int .u64 (0), .int .u64 (x), .bool (false), .int .i64 (o)] : List Value).toArray) (results_c (l := [.int .i64 (kind), .int .i64 (0), .int .i64 (0), .int .i64 (0), .int .i64 (0), .int .i64 (0), .int .u64 (0), .int .u64 (0), .int .u64 (x), .bool (false), .int .i64 (o)]) Tryz.results95 rfl hr9 _ Tryz.underlying49 rfl (by kernel_rfl)) rfl ⟨rfl, hk9⟩

set_option maxRecDepth 8000 in
set_option maxHeartbeats 1600000 in
theorem st8_bottom {e : DEnds} {d : DQ} {mem : List Int} {l : Value} (w : World) (hm : MemV w l mem) (hall : ∀ x ∈ mem, U x) (_hlen : mem.length ≤ 20000) (he : e.ok) (hu : U d.b ∧ U d.t ∧ U d.wd) (hp : d.pc = .pushBottom) :
    Calls Tryz.prog 75 #[l, .agg (r8V e d).toArray] w fun r w' => ∃ l', r = .returned (.tuple #[l', .agg (r8V e (dqStep e mem d).2).toArray]) ∧ MemV w' l' (dqStep e mem d).1 ∧ Kept w w' ∧ (∀ g, l'.ownBlock = some g → l' = l ∨ w.heap.size ≤ g) := by
  obtain ⟨pc, b, t, wd, out, won⟩ := d
  simp only at hp hu
  subst hp
  obtain ⟨hub, hut, huw⟩ := hu
  simp only [r8V, dqStep]
  obtain ⟨mo, mc, hmv⟩ := hm.form
  obtain ⟨ml, hml⟩ : ∃ ml, ml = (mem.map (Value.int .u64)).length := ⟨_, rfl⟩
  rw [← hml] at hmv
  subst hmv
  clear hml
  have HM : Hid (∀ W, Kept w W → MemV W (.slice mo ml mc) mem) := fun W k => hm.kept k
  have HA : Hid (∀ x ∈ mem, U x) := hall
  have He : Hid e.ok := he
  clear hm hall he
  obtain ⟨x, hx⟩ : ∃ x, mget mem e.bt = x := ⟨_, rfl⟩
  have HX : Hid (mget mem e.bt = x) := hx
  rw [hx]
  clear hx
  have hb0 := Blk.new w 49 [.int .i64 (1), .int .i64 (1), .int .i64 (e.tp), .int .i64 (e.bt), .int .i64 (e.en), .int .i64 (e.rm), .int .u64 (b), .int .u64 (t), .int .u64 (wd), .bool (false), .int .i64 (0)]
  have hk0 : Kept w (w.alloc (.cells ([.int .i64 (1), .int .i64 (1), .int .i64 (e.tp), .int .i64 (e.bt), .int .i64 (e.en), .int .i64 (e.rm), .int .u64 (b), .int .u64 (t), .int .u64 (wd), .bool (false), .int .i64 (0)] : List Value).toArray 49)) := (Below.refl _ _).alloc (Nat.le_refl _) _
  have z0 : (w.alloc (.cells ([.int .i64 (1), .int .i64 (1), .int .i64 (e.tp), .int .i64 (e.bt), .int .i64 (e.en), .int .i64 (e.rm), .int .u64 (b), .int .u64 (t), .int .u64 (wd), .bool (false), .int .i64 (0)] : List Value).toArray 49)).heap.size = w.heap.size + 1 := by simp
  go_enter Tryz.func75, Tryz.ntmps75
  go_wp2_with fail
  generalize w.alloc (.cells ([.int .i64 (1), .int .i64 (1), .int .i64 (e.tp), .int .i64 (e.bt), .int .i64 (e.en), .int .i64 (e.rm), .int .u64 (b), .int .u64 (t), .int .u64 (wd), .bool (false), .int .i64 (0)] : List Value).toArray 49) = w1 at *
  have hr0 := Blk.new w1 49 [.int .i64 0, .int .i64 0, .int .i64 0, .int .i64 0, .int .i64 0, .int .i64 0, .int .u64 0, .int .u64 0, .int .u64 0, .bool false, .int .i64 0]
  rw [z0] at hr0
  have hk1 : Kept w1 (w1.alloc (.cells ([.int .i64 0, .int .i64 0, .int .i64 0, .int .i64 0, .int .i64 0, .int .i64 0, .int .u64 0, .int .u64 0, .int .u64 0, .bool false, .int .i64 0] : List Value).toArray 49)) := (Below.refl _ _).alloc (Nat.le_refl _) _
  have z1 : (w1.alloc (.cells ([.int .i64 0, .int .i64 0, .int .i64 0, .int .i64 0, .int .i64 0, .int .i64 0, .int .u64 0, .int .u64 0, .int .u64 0, .bool false, .int .i64 0] : List Value).toArray 49)).heap.size = w.heap.size + 2 := by simp [z0]
  generalize w1.alloc (.cells ([.int .i64 0, .int .i64 0, .int .i64 0, .int .i64 0, .int .i64 0, .int .i64 0, .int .u64 0, .int .u64 0, .int .u64 0, .bool false, .int .i64 0] : List Value).toArray 49) = w2 at *
  have hb := (hk1.blk hb0)
  have hr := hr0
  have hk : Kept w w2 := (hk0.trans' hk1)
  clear hb0 hr0 hk0 hk1 z0
  have zN : w2.heap.size = w.heap.size + 2 := z1
  clear z1
  refine (loadL_ref e.bt w2 (HM.out w2 hk)).mono ?_; rintro r wx ⟨rfl, rfl⟩
  rw [HX.out]
  have b0 := hb.cell 0
  have b1 := hb.cell 1
  have b2 := hb.cell 2
  have b3 := hb.cell 3
  have b4 := hb.cell 4
  have b5 := hb.cell 5
  have b6 := hb.cell 6
  have b7 := hb.cell 7
  have b8 := hb.cell 8
  have b9 := hb.cell 9
  have b10 := hb.cell 10
  have fb1 := hb.free 1
  have fb6 := hb.free 6
  simp only [List.getElem?_cons_zero, List.getElem?_cons_succ] at b0 b1 b2 b3 b4 b5 b6 b7 b8 b9 b10
  go_wp2_with fail
  clear b0 b1 b2 b3 b4 b5 b6 b7 b8 b9 b10 fb1 fb6
  have hbx : Blk ((w2.setCell ⟨w.heap.size, 6, none⟩ (.int .u64 (x))).setCell ⟨w.heap.size, 1, none⟩ (.int .i64 (2))) (w.heap.size) 49 [.int .i64 (1), .int .i64 (2), .int .i64 (e.tp), .int .i64 (e.bt), .int .i64 (e.en), .int .i64 (e.rm), .int .u64 (x), .int .u64 (t), .int .u64 (wd), .bool (false), .int .i64 (0)] := ((hb.set' 6 (.int .u64 (x)) rfl).set' 1 (.int .i64 (2)) rfl)
  have hcx := (((Chg.refl (fun q => q = w.heap.size) w2).setCell ⟨w.heap.size, 6, none⟩ (.int .u64 (x)) (fun _ => rfl)).setCell ⟨w.heap.size, 1, none⟩ (.int .i64 (2)) (fun _ => rfl))
  replace hr := hcx.blk hr (by simp <;> omega)
  replace hk := hk.trans (hcx.toBelow (B := w.heap.size) (by have := hk.size; omega) (fun q hq e => by omega))
  generalize ((w2.setCell ⟨w.heap.size, 6, none⟩ (.int .u64 (x))).setCell ⟨w.heap.size, 1, none⟩ (.int .i64 (2))) = w3 at *
  clear hcx hb
  have hb := hbx
  clear hbx
  have b0 := hb.cell 0
  have b1 := hb.cell 1
  simp only [List.getElem?_cons_zero, List.getElem?_cons_succ] at b0 b1
  go_wp2_with fail
  clear b0 b1
  have hbD : Blk w3.drew (w.heap.size) 49 [.int .i64 (1), .int .i64 (2), .int .i64 (e.tp), .int .i64 (e.bt), .int .i64 (e.en), .int .i64 (e.rm), .int .u64 (x), .int .u64 (t), .int .u64 (wd), .bool (false), .int .i64 (0)] := hb
  have hrD : Blk w3.drew (w.heap.size + 1) 49 _ := hr
  refine wp_region_z 3 (fun w' => Blk w' (w.heap.size) 49 [.int .i64 (1), .int .i64 (2), .int .i64 (e.tp), .int .i64 (e.bt), .int .i64 (e.en), .int .i64 (e.rm), .int .u64 (x), .int .u64 (t), .int .u64 (wd), .bool (false), .int .i64 (0)]) (by kernel_rfl) ?_
  refine wpAnyZ_take (i := 0) (v := ?v0z3) rfl (by kernel_rfl) (by kernel_rfl) (by kernel_rfl) (by kernel_rfl) (fun _ _ _ h => h) (Or.inl ⟨by rfl, ?hy0z3⟩) hbD ?_
  case hy0z3 => intro w hSw; (try dsimp only at hSw); first | (go_simp; done) | (go_simp; with_reducible rfl)
  try simp only [Act.put, List.getElem_toArray, List.getElem_cons_zero, List.setIfInBounds_toArray, List.set_cons_zero, List.set_cons_succ]
  refine wpAnyZ_take (i := 1) (v := .agg ([.int .i64 (1), .int .i64 (2), .int .i64 (e.tp), .int .i64 (e.bt), .int .i64 (e.en), .int .i64 (e.rm), .int .u64 (x), .int .u64 (t), .int .u64 (wd), .bool (false), .int .i64 (0)] : List Value).toArray) rfl (by kernel_rfl) (by kernel_rfl) (by kernel_rfl) (by kernel_rfl) (fun _ _ _ h => h) (yieldsIf_load_mid rfl 49 _ rfl (w.heap.size) 0 rfl [.int .i64 (1), .int .i64 (2), .int .i64 (e.tp), .int .i64 (e.bt), .int .i64 (e.en), .int .i64 (e.rm), .int .u64 (x), .int .u64 (t), .int .u64 (wd), .bool (false), .int .i64 (0)] _ (fun w h => Blk.range h 0 _ rfl) Tryz.underlying49 rfl (by kernel_rfl)) hbD ?_
  try simp only [Act.put, List.getElem_toArray, List.getElem_cons_zero, List.getElem_cons_succ, List.setIfInBounds_toArray, List.set_cons_zero, List.set_cons_succ]
  refine wpAnyZ_take (i := 2) (v := ?v2z4) rfl (by kernel_rfl) (by kernel_rfl) (by kernel_rfl) (by kernel_rfl) (fun _ _ _ h => h) (Or.inl ⟨by rfl, ?hy2z4⟩) hbD ?_
  case hy2z4 => intro w hSw; (try dsimp only at hSw); first | (go_simp; done) | (go_simp; with_reducible rfl)
  try simp only [Act.put, List.getElem_toArray, List.getElem_cons_zero, List.getElem_cons_succ, List.setIfInBounds_toArray, List.set_cons_zero, List.set_cons_succ]
  refine wpAnyZ_one (i := 3) (by kernel_rfl) rfl (fun K hK => ?_)
  rw [if_pos (by kernel_rfl)]
  refine wp_store_row 49 _ _ rfl hrD 0 rfl [.int .i64 (1), .int .i64 (2), .int .i64 (e.tp), .int .i64 (e.bt), .int .i64 (e.en), .int .i64 (e.rm), .int .u64 (x), .int .u64 (t), .int .u64 (wd), .bool (false), .int .i64 (0)] [.int .i64 (1), .int .i64 (2), .int .i64 (e.tp), .int .i64 (e.bt), .int .i64 (e.en), .int .i64 (e.rm), .int .u64 (x), .int .u64 (t), .int .u64 (wd), .bool (false), .int .i64 (0)] rfl rfl (by simp) rfl (by kernel_rfl) ?_
  refine hK.out _ _ (fun h => absurd rfl h) ?_
  refine wpAnyZ_done (by kernel_rfl) ?_ _
  clear hK K
  have hr9 : Blk (w3.drew.setRow (w.heap.size + 1) ([.int .i64 (1), .int .i64 (2), .int .i64 (e.tp), .int .i64 (e.bt), .int .i64 (e.en), .int .i64 (e.rm), .int .u64 (x), .int .u64 (t), .int .u64 (wd), .bool (false), .int .i64 (0)] : List Value).toArray) (w.heap.size + 1) 49 [.int .i64 (1), .int .i64 (2), .int .i64 (e.tp), .int .i64 (e.bt), .int .i64 (e.en), .int .i64 (e.rm), .int .u64 (x), .int .u64 (t), .int .u64 (wd), .bool (false), .int .i64 (0)] := Blk.setRow hrD _
  have hk9 : Kept w (w3.drew.setRow (w.heap.size + 1) ([.int .i64 (1), .int .i64 (2), .int .i64 (e.tp), .int .i64 (e.bt), .int .i64 (e.en), .int .i64 (e.rm), .int .u64 (x), .int .u64 (t), .int .u64 (wd), .bool (false), .int .i64 (0)] : List Value).toArray) := Below.setRow (Below.drew hk) _ (by omega)
  have hc9 : Chg (fun q => q = w.heap.size + 1) w3 (w3.drew.setRow (w.heap.size + 1) ([.int .i64 (1), .int .i64 (2), .int .i64 (e.tp), .int .i64 (e.bt), .int .i64 (e.en), .int .i64 (e.rm), .int .u64 (x), .int .u64 (t), .int .u64 (wd), .bool (false), .int .i64 (0)] : List Value).toArray) := Chg.setRow (Chg.refl _ _).drew _ _ (fun _ => rfl)
  generalize (w3.drew.setRow (w.heap.size + 1) ([.int .i64 (1), .int .i64 (2), .int .i64 (e.tp), .int .i64 (e.bt), .int .i64 (e.en), .int .i64 (e.rm), .int .u64 (x), .int .u64 (t), .int .u64 (wd), .bool (false), .int .i64 (0)] : List Value).toArray) = w99 at *
  clear hbD hrD
  go_wp2_with fail
  exact bodyPost_ret (v := .tuple #[.slice mo ml mc, .agg ([.int .i64 (1), .int .i64 (2), .int .i64 (e.tp), .int .i64 (e.bt), .int .i64 (e.en), .int .i64 (e.rm), .int .u64 (x), .int .u64 (t), .int .u64 (wd), .bool (false), .int .i64 (0)] : List Value).toArray]) (results_tc (l := [.int .i64 (1), .int .i64 (2), .int .i64 (e.tp), .int .i64 (e.bt), .int .i64 (e.en), .int .i64 (e.rm), .int .u64 (x), .int .u64 (t), .int .u64 (wd), .bool (false), .int .i64 (0)]) Tryz.results75 rfl rfl hr9 _ Tryz.underlying49 rfl (by kernel_rfl)) rfl ⟨_, rfl, HM.out _ hk9, hk9, fun g e => .inl rfl⟩

set_option maxRecDepth 8000 in
set_option maxHeartbeats 1600000 in
theorem st8_top_full {e : DEnds} {d : DQ} {mem : List Int} {l : Value} (w : World) (hm : MemV w l mem) (hall : ∀ x ∈ mem, U x) (_hlen : mem.length ≤ 20000) (he : e.ok) (hu : U d.b ∧ U d.t ∧ U d.wd) (hp : d.pc = .pushTop) (hz : aheadI d.b (mget mem e.tp) ≥ max e.rm 1) :
    Calls Tryz.prog 75 #[l, .agg (r8V e d).toArray] w fun r w' => ∃ l', r = .returned (.tuple #[l', .agg (r8V e (dqStep e mem d).2).toArray]) ∧ MemV w' l' (dqStep e mem d).1 ∧ Kept w w' ∧ (∀ g, l'.ownBlock = some g → l' = l ∨ w.heap.size ≤ g) := by
  obtain ⟨pc, b, t, wd, out, won⟩ := d
  simp only at hp hu hz
  subst hp
  obtain ⟨hub, hut, huw⟩ := hu
  simp only [r8V, dqStep]
  obtain ⟨mo, mc, hmv⟩ := hm.form
  obtain ⟨ml, hml⟩ : ∃ ml, ml = (mem.map (Value.int .u64)).length := ⟨_, rfl⟩
  rw [← hml] at hmv
  subst hmv
  clear hml
  have HM : Hid (∀ W, Kept w W → MemV W (.slice mo ml mc) mem) := fun W k => hm.kept k
  have HA : Hid (∀ x ∈ mem, U x) := hall
  have He : Hid e.ok := he
  clear hm hall he
  obtain ⟨x, hx⟩ : ∃ x, mget mem e.tp = x := ⟨_, rfl⟩
  have HX : Hid (mget mem e.tp = x) := hx
  have hUx : U x := hx ▸ mget_all HA.out e.tp
  rw [hx] at hz ⊢
  clear hx
  obtain ⟨a, ha⟩ : ∃ a, aheadI b x = a := ⟨_, rfl⟩
  have HAH : Hid (aheadI b x = a) := ha
  have ha1 : -9223372036854775808 ≤ a ∧ a < 9223372036854775808 := by rw [← ha]; unfold aheadI; omega
  rw [ha] at hz ⊢
  clear ha
  obtain ⟨mx, hmx⟩ : ∃ mx : Int, max e.rm 1 = mx := ⟨_, rfl⟩
  have HMX : Hid (max e.rm 1 = mx) := hmx
  have hmx0 : 0 < mx := by omega
  rw [hmx] at hz ⊢
  clear hmx
  have h0 : a ≥ 0 := by omega
  rw [if_pos hz]
  simp only []
  have ya : IntKind.u64.wrap a = a := by rw [IntKind.wrap_u64]; omega
  have hb0 := Blk.new w 49 [.int .i64 (1), .int .i64 (2), .int .i64 (e.tp), .int .i64 (e.bt), .int .i64 (e.en), .int .i64 (e.rm), .int .u64 (b), .int .u64 (t), .int .u64 (wd), .bool (false), .int .i64 (0)]
  have hk0 : Kept w (w.alloc (.cells ([.int .i64 (1), .int .i64 (2), .int .i64 (e.tp), .int .i64 (e.bt), .int .i64 (e.en), .int .i64 (e.rm), .int .u64 (b), .int .u64 (t), .int .u64 (wd), .bool (false), .int .i64 (0)] : List Value).toArray 49)) := (Below.refl _ _).alloc (Nat.le_refl _) _
  have z0 : (w.alloc (.cells ([.int .i64 (1), .int .i64 (2), .int .i64 (e.tp), .int .i64 (e.bt), .int .i64 (e.en), .int .i64 (e.rm), .int .u64 (b), .int .u64 (t), .int .u64 (wd), .bool (false), .int .i64 (0)] : List Value).toArray 49)).heap.size = w.heap.size + 1 := by simp
  go_enter Tryz.func75, Tryz.ntmps75
  go_wp2_with fail
  generalize w.alloc (.cells ([.int .i64 (1), .int .i64 (2), .int .i64 (e.tp), .int .i64 (e.bt), .int .i64 (e.en), .int .i64 (e.rm), .int .u64 (b), .int .u64 (t), .int .u64 (wd), .bool (false), .int .i64 (0)] : List Value).toArray 49) = w1 at *
  have hr0 := Blk.new w1 49 [.int .i64 0, .int .i64 0, .int .i64 0, .int .i64 0, .int .i64 0, .int .i64 0, .int .u64 0, .int .u64 0, .int .u64 0, .bool false, .int .i64 0]
  rw [z0] at hr0
  have hk1 : Kept w1 (w1.alloc (.cells ([.int .i64 0, .int .i64 0, .int .i64 0, .int .i64 0, .int .i64 0, .int .i64 0, .int .u64 0, .int .u64 0, .int .u64 0, .bool false, .int .i64 0] : List Value).toArray 49)) := (Below.refl _ _).alloc (Nat.le_refl _) _
  have z1 : (w1.alloc (.cells ([.int .i64 0, .int .i64 0, .int .i64 0, .int .i64 0, .int .i64 0, .int .i64 0, .int .u64 0, .int .u64 0, .int .u64 0, .bool false, .int .i64 0] : List Value).toArray 49)).heap.size = w.heap.size + 2 := by simp [z0]
  generalize w1.alloc (.cells ([.int .i64 0, .int .i64 0, .int .i64 0, .int .i64 0, .int .i64 0, .int .i64 0, .int .u64 0, .int .u64 0, .int .u64 0, .bool false, .int .i64 0] : List Value).toArray 49) = w2 at *
  have hb := (hk1.blk hb0)
  have hr := hr0
  have hk : Kept w w2 := (hk0.trans' hk1)
  clear hb0 hr0 hk0 hk1 z0
  have zN : w2.heap.size = w.heap.size + 2 := z1
  clear z1
  refine (loadL_ref e.tp w2 (HM.out w2 hk)).mono ?_; rintro r wx ⟨rfl, rfl⟩
  rw [HX.out]
  have b0 := hb.cell 0
  have b1 := hb.cell 1
  have b2 := hb.cell 2
  have b3 := hb.cell 3
  have b4 := hb.cell 4
  have b5 := hb.cell 5
  have b6 := hb.cell 6
  have b7 := hb.cell 7
  have b8 := hb.cell 8
  have b9 := hb.cell 9
  have b10 := hb.cell 10
  have fb7 := hb.free 7
  simp only [List.getElem?_cons_zero, List.getElem?_cons_succ] at b0 b1 b2 b3 b4 b5 b6 b7 b8 b9 b10
  go_wp2_with fail
  clear b0 b1 b2 b3 b4 b5 b6 b7 b8 b9 b10 fb7
  have hbx : Blk (w2.setCell ⟨w.heap.size, 7, none⟩ (.int .u64 (x))) (w.heap.size) 49 [.int .i64 (1), .int .i64 (2), .int .i64 (e.tp), .int .i64 (e.bt), .int .i64 (e.en), .int .i64 (e.rm), .int .u64 (b), .int .u64 (x), .int .u64 (wd), .bool (false), .int .i64 (0)] := (hb.set' 7 (.int .u64 (x)) rfl)
  have hcx := ((Chg.refl (fun q => q = w.heap.size) w2).setCell ⟨w.heap.size, 7, none⟩ (.int .u64 (x)) (fun _ => rfl))
  replace hr := hcx.blk hr (by simp <;> omega)
  replace hk := hk.trans (hcx.toBelow (B := w.heap.size) (by have := hk.size; omega) (fun q hq e => by omega))
  generalize (w2.setCell ⟨w.heap.size, 7, none⟩ (.int .u64 (x))) = w3 at *
  clear hcx hb
  have hb := hbx
  clear hbx
  refine (ahead8_ref b x w3 hub hUx).mono ?_; rintro r wx ⟨rfl, rfl⟩
  rw [HAH.out]
  have b0 := hb.cell 0
  have b1 := hb.cell 1
  have b2 := hb.cell 2
  have b3 := hb.cell 3
  have b4 := hb.cell 4
  have b5 := hb.cell 5
  have b6 := hb.cell 6
  have b7 := hb.cell 7
  have b8 := hb.cell 8
  have b9 := hb.cell 9
  have b10 := hb.cell 10
  have fb1 := hb.free 1
  simp only [List.getElem?_cons_zero, List.getElem?_cons_succ] at b0 b1 b2 b3 b4 b5 b6 b7 b8 b9 b10
  go_wp2_with fail
  refine (room8_ref e w3 He.out).mono ?_; rintro r w8 ⟨rfl, hkc⟩
  rw [HMX.out]
  clear b0 b1 b2 b3 b4 b5 b6 b7 b8 b9 b10 fb1
  replace hb := hkc.blk hb
  replace hr := hkc.blk hr
  replace hk := Kept.trans' hk hkc
  clear hkc
  have b0 := hb.cell 0
  have b1 := hb.cell 1
  have b2 := hb.cell 2
  have b3 := hb.cell 3
  have b4 := hb.cell 4
  have b5 := hb.cell 5
  have b6 := hb.cell 6
  have b7 := hb.cell 7
  have b8 := hb.cell 8
  have b9 := hb.cell 9
  have b10 := hb.cell 10
  have fb1 := hb.free 1
  simp only [List.getElem?_cons_zero, List.getElem?_cons_succ] at b0 b1 b2 b3 b4 b5 b6 b7 b8 b9 b10
  go_wp2_with fail
  refine (end8_ref 1 2 e.tp e.bt e.en e.rm b x wd false 0 2 0 w8).mono ?_; rintro r w9 ⟨rfl, hkc⟩
  clear b0 b1 b2 b3 b4 b5 b6 b7 b8 b9 b10 fb1
  replace hb := hkc.blk hb
  replace hr := hkc.blk hr
  replace hk := Kept.trans' hk hkc
  clear hkc
  have r0 := hr.cell 0
  have r1 := hr.cell 1
  have r2 := hr.cell 2
  have r3 := hr.cell 3
  have r4 := hr.cell 4
  have r5 := hr.cell 5
  have r6 := hr.cell 6
  have r7 := hr.cell 7
  have r8 := hr.cell 8
  have r9 := hr.cell 9
  have r10 := hr.cell 10
  have fr0 := hr.free 0
  have fr1 := hr.free 1
  have fr2 := hr.free 2
  have fr3 := hr.free 3
  have fr4 := hr.free 4
  have fr5 := hr.free 5
  have fr6 := hr.free 6
  have fr7 := hr.free 7
  have fr8 := hr.free 8
  have fr9 := hr.free 9
  have fr10 := hr.free 10
  simp only [List.getElem?_cons_zero, List.getElem?_cons_succ] at r0 r1 r2 r3 r4 r5 r6 r7 r8 r9 r10
  go_wp2_with fail
  have hr9 : Blk (((((((((((w9.setCell ⟨w.heap.size + 1, 0, none⟩ (.int .i64 (1))).setCell ⟨w.heap.size + 1, 1, none⟩ (.int .i64 (0))).setCell ⟨w.heap.size + 1, 2, none⟩ (.int .i64 (0))).setCell ⟨w.heap.size + 1, 3, none⟩ (.int .i64 (0))).setCell ⟨w.heap.size + 1, 4, none⟩ (.int .i64 (0))).setCell ⟨w.heap.size + 1, 5, none⟩ (.int .i64 (0))).setCell ⟨w.heap.size + 1, 6, none⟩ (.int .u64 (0))).setCell ⟨w.heap.size + 1, 7, none⟩ (.int .u64 (0))).setCell ⟨w.heap.size + 1, 8, none⟩ (.int .u64 (0))).setCell ⟨w.heap.size + 1, 9, none⟩ (.bool (false))).setCell ⟨w.heap.size + 1, 10, none⟩ (.int .i64 (2))) (w.heap.size + 1) 49 [.int .i64 (1), .int .i64 (0), .int .i64 (0), .int .i64 (0), .int .i64 (0), .int .i64 (0), .int .u64 (0), .int .u64 (0), .int .u64 (0), .bool (false), .int .i64 (2)] := (((((((((((hr.set' 0 (.int .i64 (1)) rfl).set' 1 (.int .i64 (0)) rfl).set' 2 (.int .i64 (0)) rfl).set' 3 (.int .i64 (0)) rfl).set' 4 (.int .i64 (0)) rfl).set' 5 (.int .i64 (0)) rfl).set' 6 (.int .u64 (0)) rfl).set' 7 (.int .u64 (0)) rfl).set' 8 (.int .u64 (0)) rfl).set' 9 (.bool (false)) rfl).set' 10 (.int .i64 (2)) rfl)
  have hk9 : Kept w (((((((((((w9.setCell ⟨w.heap.size + 1, 0, none⟩ (.int .i64 (1))).setCell ⟨w.heap.size + 1, 1, none⟩ (.int .i64 (0))).setCell ⟨w.heap.size + 1, 2, none⟩ (.int .i64 (0))).setCell ⟨w.heap.size + 1, 3, none⟩ (.int .i64 (0))).setCell ⟨w.heap.size + 1, 4, none⟩ (.int .i64 (0))).setCell ⟨w.heap.size + 1, 5, none⟩ (.int .i64 (0))).setCell ⟨w.heap.size + 1, 6, none⟩ (.int .u64 (0))).setCell ⟨w.heap.size + 1, 7, none⟩ (.int .u64 (0))).setCell ⟨w.heap.size + 1, 8, none⟩ (.int .u64 (0))).setCell ⟨w.heap.size + 1, 9, none⟩ (.bool (false))).setCell ⟨w.heap.size + 1, 10, none⟩ (.int .i64 (2))) := (Below.setCell (Below.setCell (Below.setCell (Below.setCell (Below.setCell (Below.setCell (Below.setCell (Below.setCell (Below.setCell (Below.setCell (Below.setCell hk (p := ⟨w.heap.size + 1, 0, none⟩) (by simp <;> omega) _) (p := ⟨w.heap.size + 1, 1, none⟩) (by simp <;> omega) _) (p := ⟨w.heap.size + 1, 2, none⟩) (by simp <;> omega) _) (p := ⟨w.heap.size + 1, 3, none⟩) (by simp <;> omega) _) (p := ⟨w.heap.size + 1, 4, none⟩) (by simp <;> omega) _) (p := ⟨w.heap.size + 1, 5, none⟩) (by simp <;> omega) _) (p := ⟨w.heap.size + 1, 6, none⟩) (by simp <;> omega) _) (p := ⟨w.heap.size + 1, 7, none⟩) (by simp <;> omega) _) (p := ⟨w.heap.size + 1, 8, none⟩) (by simp <;> omega) _) (p := ⟨w.heap.size + 1, 9, none⟩) (by simp <;> omega) _) (p := ⟨w.heap.size + 1, 10, none⟩) (by simp <;> omega) _)
  have hc9 : Chg (fun q => q = w.heap.size + 1) w9 (((((((((((w9.setCell ⟨w.heap.size + 1, 0, none⟩ (.int .i64 (1))).setCell ⟨w.heap.size + 1, 1, none⟩ (.int .i64 (0))).setCell ⟨w.heap.size + 1, 2, none⟩ (.int .i64 (0))).setCell ⟨w.heap.size + 1, 3, none⟩ (.int .i64 (0))).setCell ⟨w.heap.size + 1, 4, none⟩ (.int .i64 (0))).setCell ⟨w.heap.size + 1, 5, none⟩ (.int .i64 (0))).setCell ⟨w.heap.size + 1, 6, none⟩ (.int .u64 (0))).setCell ⟨w.heap.size + 1, 7, none⟩ (.int .u64 (0))).setCell ⟨w.heap.size + 1, 8, none⟩ (.int .u64 (0))).setCell ⟨w.heap.size + 1, 9, none⟩ (.bool (false))).setCell ⟨w.heap.size + 1, 10, none⟩ (.int .i64 (2))) := ((((((((((((Chg.refl (fun q => q = w.heap.size + 1) w9).setCell ⟨w.heap.size + 1, 0, none⟩ (.int .i64 (1)) (fun _ => rfl)).setCell ⟨w.heap.size + 1, 1, none⟩ (.int .i64 (0)) (fun _ => rfl)).setCell ⟨w.heap.size + 1, 2, none⟩ (.int .i64 (0)) (fun _ => rfl)).setCell ⟨w.heap.size + 1, 3, none⟩ (.int .i64 (0)) (fun _ => rfl)).setCell ⟨w.heap.size + 1, 4, none⟩ (.int .i64 (0)) (fun _ => rfl)).setCell ⟨w.heap.size + 1, 5, none⟩ (.int .i64 (0)) (fun _ => rfl)).setCell ⟨w.heap.size + 1, 6, none⟩ (.int .u64 (0)) (fun _ => rfl)).setCell ⟨w.heap.size + 1, 7, none⟩ (.int .u64 (0)) (fun _ => rfl)).setCell ⟨w.heap.size + 1, 8, none⟩ (.int .u64 (0)) (fun _ => rfl)).setCell ⟨w.heap.size + 1, 9, none⟩ (.bool (false)) (fun _ => rfl)).setCell ⟨w.heap.size + 1, 10, none⟩ (.int .i64 (2)) (fun _ => rfl))
  generalize (((((((((((w9.setCell ⟨w.heap.size + 1, 0, none⟩ (.int .i64 (1))).setCell ⟨w.heap.size + 1, 1, none⟩ (.int .i64 (0))).setCell ⟨w.heap.size + 1, 2, none⟩ (.int .i64 (0))).setCell ⟨w.heap.size + 1, 3, none⟩ (.int .i64 (0))).setCell ⟨w.heap.size + 1, 4, none⟩ (.int .i64 (0))).setCell ⟨w.heap.size + 1, 5, none⟩ (.int .i64 (0))).setCell ⟨w.heap.size + 1, 6, none⟩ (.int .u64 (0))).setCell ⟨w.heap.size + 1, 7, none⟩ (.int .u64 (0))).setCell ⟨w.heap.size + 1, 8, none⟩ (.int .u64 (0))).setCell ⟨w.heap.size + 1, 9, none⟩ (.bool (false))).setCell ⟨w.heap.size + 1, 10, none⟩ (.int .i64 (2))) = w99 at *
  clear r0 r1 r2 r3 r4 r5 r6 r7 r8 r9 r10 fr0 fr1 fr2 fr3 fr4 fr5 fr6 fr7 fr8 fr9 fr10
  exact bodyPost_ret (v := .tuple #[.slice mo ml mc, .agg ([.int .i64 (1), .int .i64 (0), .int .i64 (0), .int .i64 (0), .int .i64 (0), .int .i64 (0), .int .u64 (0), .int .u64 (0), .int .u64 (0), .bool (false), .int .i64 (2)] : List Value).toArray]) (results_tc (l := [.int .i64 (1), .int .i64 (0), .int .i64 (0), .int .i64 (0), .int .i64 (0), .int .i64 (0), .int .u64 (0), .int .u64 (0), .int .u64 (0), .bool (false), .int .i64 (2)]) Tryz.results75 rfl rfl hr9 _ Tryz.underlying49 rfl (by kernel_rfl)) rfl ⟨_, rfl, HM.out _ hk9, hk9, fun g e => .inl rfl⟩

set_option maxRecDepth 8000 in
set_option maxHeartbeats 1600000 in
theorem st8_top_less {e : DEnds} {d : DQ} {mem : List Int} {l : Value} (w : World) (hm : MemV w l mem) (hall : ∀ x ∈ mem, U x) (_hlen : mem.length ≤ 20000) (he : e.ok) (hu : U d.b ∧ U d.t ∧ U d.wd) (hp : d.pc = .pushTop) (hz : ¬ aheadI d.b (mget mem e.tp) ≥ max e.rm 1) (h0 : aheadI d.b (mget mem e.tp) ≥ 0) :
    Calls Tryz.prog 75 #[l, .agg (r8V e d).toArray] w fun r w' => ∃ l', r = .returned (.tuple #[l', .agg (r8V e (dqStep e mem d).2).toArray]) ∧ MemV w' l' (dqStep e mem d).1 ∧ Kept w w' ∧ (∀ g, l'.ownBlock = some g → l' = l ∨ w.heap.size ≤ g) := by
  obtain ⟨pc, b, t, wd, out, won⟩ := d
  simp only at hp hu hz h0
  subst hp
  obtain ⟨hub, hut, huw⟩ := hu
  simp only [r8V, dqStep]
  obtain ⟨mo, mc, hmv⟩ := hm.form
  obtain ⟨ml, hml⟩ : ∃ ml, ml = (mem.map (Value.int .u64)).length := ⟨_, rfl⟩
  rw [← hml] at hmv
  subst hmv
  clear hml
  have HM : Hid (∀ W, Kept w W → MemV W (.slice mo ml mc) mem) := fun W k => hm.kept k
  have HA : Hid (∀ x ∈ mem, U x) := hall
  have He : Hid e.ok := he
  clear hm hall he
  obtain ⟨x, hx⟩ : ∃ x, mget mem e.tp = x := ⟨_, rfl⟩
  have HX : Hid (mget mem e.tp = x) := hx
  have hUx : U x := hx ▸ mget_all HA.out e.tp
  rw [hx] at hz h0 ⊢
  clear hx
  obtain ⟨a, ha⟩ : ∃ a, aheadI b x = a := ⟨_, rfl⟩
  have HAH : Hid (aheadI b x = a) := ha
  have ha1 : -9223372036854775808 ≤ a ∧ a < 9223372036854775808 := by rw [← ha]; unfold aheadI; omega
  rw [ha] at hz h0 ⊢
  clear ha
  obtain ⟨mx, hmx⟩ : ∃ mx : Int, max e.rm 1 = mx := ⟨_, rfl⟩
  have HMX : Hid (max e.rm 1 = mx) := hmx
  have hmx0 : 0 < mx := by omega
  rw [hmx] at hz ⊢
  clear hmx

  rw [if_neg hz]
  simp only []
  have ya : IntKind.u64.wrap a = a := by rw [IntKind.wrap_u64]; omega
  have hb0 := Blk.new w 49 [.int .i64 (1), .int .i64 (2), .int .i64 (e.tp), .int .i64 (e.bt), .int .i64 (e.en), .int .i64 (e.rm), .int .u64 (b), .int .u64 (t), .int .u64 (wd), .bool (false), .int .i64 (0)]
  have hk0 : Kept w (w.alloc (.cells ([.int .i64 (1), .int .i64 (2), .int .i64 (e.tp), .int .i64 (e.bt), .int .i64 (e.en), .int .i64 (e.rm), .int .u64 (b), .int .u64 (t), .int .u64 (wd), .bool (false), .int .i64 (0)] : List Value).toArray 49)) := (Below.refl _ _).alloc (Nat.le_refl _) _
  have z0 : (w.alloc (.cells ([.int .i64 (1), .int .i64 (2), .int .i64 (e.tp), .int .i64 (e.bt), .int .i64 (e.en), .int .i64 (e.rm), .int .u64 (b), .int .u64 (t), .int .u64 (wd), .bool (false), .int .i64 (0)] : List Value).toArray 49)).heap.size = w.heap.size + 1 := by simp
  go_enter Tryz.func75, Tryz.ntmps75
  go_wp2_with fail
  generalize w.alloc (.cells ([.int .i64 (1), .int .i64 (2), .int .i64 (e.tp), .int .i64 (e.bt), .int .i64 (e.en), .int .i64 (e.rm), .int .u64 (b), .int .u64 (t), .int .u64 (wd), .bool (false), .int .i64 (0)] : List Value).toArray 49) = w1 at *
  have hr0 := Blk.new w1 49 [.int .i64 0, .int .i64 0, .int .i64 0, .int .i64 0, .int .i64 0, .int .i64 0, .int .u64 0, .int .u64 0, .int .u64 0, .bool false, .int .i64 0]
  rw [z0] at hr0
  have hk1 : Kept w1 (w1.alloc (.cells ([.int .i64 0, .int .i64 0, .int .i64 0, .int .i64 0, .int .i64 0, .int .i64 0, .int .u64 0, .int .u64 0, .int .u64 0, .bool false, .int .i64 0] : List Value).toArray 49)) := (Below.refl _ _).alloc (Nat.le_refl _) _
  have z1 : (w1.alloc (.cells ([.int .i64 0, .int .i64 0, .int .i64 0, .int .i64 0, .int .i64 0, .int .i64 0, .int .u64 0, .int .u64 0, .int .u64 0, .bool false, .int .i64 0] : List Value).toArray 49)).heap.size = w.heap.size + 2 := by simp [z0]
  generalize w1.alloc (.cells ([.int .i64 0, .int .i64 0, .int .i64 0, .int .i64 0, .int .i64 0, .int .i64 0, .int .u64 0, .int .u64 0, .int .u64 0, .bool false, .int .i64 0] : List Value).toArray 49) = w2 at *
  have hb := (hk1.blk hb0)
  have hr := hr0
  have hk : Kept w w2 := (hk0.trans' hk1)
  clear hb0 hr0 hk0 hk1 z0
  have zN : w2.heap.size = w.heap.size + 2 := z1
  clear z1
  refine (loadL_ref e.tp w2 (HM.out w2 hk)).mono ?_; rintro r wx ⟨rfl, rfl⟩
  rw [HX.out]
  have b0 := hb.cell 0
  have b1 := hb.cell 1
  have b2 := hb.cell 2
  have b3 := hb.cell 3
  have b4 := hb.cell 4
  have b5 := hb.cell 5
  have b6 := hb.cell 6
  have b7 := hb.cell 7
  have b8 := hb.cell 8
  have b9 := hb.cell 9
  have b10 := hb.cell 10
  have fb7 := hb.free 7
  simp only [List.getElem?_cons_zero, List.getElem?_cons_succ] at b0 b1 b2 b3 b4 b5 b6 b7 b8 b9 b10
  go_wp2_with fail
  clear b0 b1 b2 b3 b4 b5 b6 b7 b8 b9 b10 fb7
  have hbx : Blk (w2.setCell ⟨w.heap.size, 7, none⟩ (.int .u64 (x))) (w.heap.size) 49 [.int .i64 (1), .int .i64 (2), .int .i64 (e.tp), .int .i64 (e.bt), .int .i64 (e.en), .int .i64 (e.rm), .int .u64 (b), .int .u64 (x), .int .u64 (wd), .bool (false), .int .i64 (0)] := (hb.set' 7 (.int .u64 (x)) rfl)
  have hcx := ((Chg.refl (fun q => q = w.heap.size) w2).setCell ⟨w.heap.size, 7, none⟩ (.int .u64 (x)) (fun _ => rfl))
  replace hr := hcx.blk hr (by simp <;> omega)
  replace hk := hk.trans (hcx.toBelow (B := w.heap.size) (by have := hk.size; omega) (fun q hq e => by omega))
  generalize (w2.setCell ⟨w.heap.size, 7, none⟩ (.int .u64 (x))) = w3 at *
  clear hcx hb
  have hb := hbx
  clear hbx
  refine (ahead8_ref b x w3 hub hUx).mono ?_; rintro r wx ⟨rfl, rfl⟩
  rw [HAH.out]
  have b0 := hb.cell 0
  have b1 := hb.cell 1
  have b2 := hb.cell 2
  have b3 := hb.cell 3
  have b4 := hb.cell 4
  have b5 := hb.cell 5
  have b6 := hb.cell 6
  have b7 := hb.cell 7
  have b8 := hb.cell 8
  have b9 := hb.cell 9
  have b10 := hb.cell 10
  have fb1 := hb.free 1
  simp only [List.getElem?_cons_zero, List.getElem?_cons_succ] at b0 b1 b2 b3 b4 b5 b6 b7 b8 b9 b10
  go_wp2_with fail
  refine (room8_ref e w3 He.out).mono ?_; rintro r w8 ⟨rfl, hkc⟩
  rw [HMX.out]
  clear b0 b1 b2 b3 b4 b5 b6 b7 b8 b9 b10 fb1
  replace hb := hkc.blk hb
  replace hr := hkc.blk hr
  replace hk := Kept.trans' hk hkc
  clear hkc
  have b0 := hb.cell 0
  have b1 := hb.cell 1
  have b2 := hb.cell 2
  have b3 := hb.cell 3
  have b4 := hb.cell 4
  have b5 := hb.cell 5
  have b6 := hb.cell 6
  have b7 := hb.cell 7
  have b8 := hb.cell 8
  have b9 := hb.cell 9
  have b10 := hb.cell 10
  have fb1 := hb.free 1
  simp only [List.getElem?_cons_zero, List.getElem?_cons_succ] at b0 b1 b2 b3 b4 b5 b6 b7 b8 b9 b10
  go_wp2_with fail
  clear b0 b1 b2 b3 b4 b5 b6 b7 b8 b9 b10 fb1
  have hbx : Blk (w8.setCell ⟨w.heap.size, 1, none⟩ (.int .i64 (3))) (w.heap.size) 49 [.int .i64 (1), .int .i64 (3), .int .i64 (e.tp), .int .i64 (e.bt), .int .i64 (e.en), .int .i64 (e.rm), .int .u64 (b), .int .u64 (x), .int .u64 (wd), .bool (false), .int .i64 (0)] := (hb.set' 1 (.int .i64 (3)) rfl)
  have hcx := ((Chg.refl (fun q => q = w.heap.size) w8).setCell ⟨w.heap.size, 1, none⟩ (.int .i64 (3)) (fun _ => rfl))
  replace hr := hcx.blk hr (by simp <;> omega)
  replace hk := hk.trans (hcx.toBelow (B := w.heap.size) (by have := hk.size; omega) (fun q hq e => by omega))
  generalize (w8.setCell ⟨w.heap.size, 1, none⟩ (.int .i64 (3))) = w9 at *
  clear hcx hb
  have hb := hbx
  clear hbx
  have b0 := hb.cell 0
  have b1 := hb.cell 1
  simp only [List.getElem?_cons_zero, List.getElem?_cons_succ] at b0 b1
  go_wp2_with fail
  clear b0 b1
  have hbD : Blk w9.drew (w.heap.size) 49 [.int .i64 (1), .int .i64 (3), .int .i64 (e.tp), .int .i64 (e.bt), .int .i64 (e.en), .int .i64 (e.rm), .int .u64 (b), .int .u64 (x), .int .u64 (wd), .bool (false), .int .i64 (0)] := hb
  have hrD : Blk w9.drew (w.heap.size + 1) 49 _ := hr
  refine wp_region_z 3 (fun w' => Blk w' (w.heap.size) 49 [.int .i64 (1), .int .i64 (3), .int .i64 (e.tp), .int .i64 (e.bt), .int .i64 (e.en), .int .i64 (e.rm), .int .u64 (b), .int .u64 (x), .int .u64 (wd), .bool (false), .int .i64 (0)]) (by kernel_rfl) ?_
  refine wpAnyZ_take (i := 0) (v := ?v0z5) rfl (by kernel_rfl) (by kernel_rfl) (by kernel_rfl) (by kernel_rfl) (fun _ _ _ h => h) (Or.inl ⟨by rfl, ?hy0z5⟩) hbD ?_
  case hy0z5 => intro w hSw; (try dsimp only at hSw); first | (go_simp; done) | (go_simp; with_reducible rfl)
  try simp only [Act.put, List.getElem_toArray, List.getElem_cons_zero, List.setIfInBounds_toArray, List.set_cons_zero, List.set_cons_succ]
  refine wpAnyZ_take (i := 1) (v := .agg ([.int .i64 (1), .int .i64 (3), .int .i64 (e.tp), .int .i64 (e.bt), .int .i64 (e.en), .int .i64 (e.rm), .int .u64 (b), .int .u64 (x), .int .u64 (wd), .bool (false), .int .i64 (0)] : List Value).toArray) rfl (by kernel_rfl) (by kernel_rfl) (by kernel_rfl) (by kernel_rfl) (fun _ _ _ h => h) (yieldsIf_load_mid rfl 49 _ rfl (w.heap.size) 0 rfl [.int .i64 (1), .int .i64 (3), .int .i64 (e.tp), .int .i64 (e.bt), .int .i64 (e.en), .int .i64 (e.rm), .int .u64 (b), .int .u64 (x), .int .u64 (wd), .bool (false), .int .i64 (0)] _ (fun w h => Blk.range h 0 _ rfl) Tryz.underlying49 rfl (by kernel_rfl)) hbD ?_
  try simp only [Act.put, List.getElem_toArray, List.getElem_cons_zero, List.getElem_cons_succ, List.setIfInBounds_toArray, List.set_cons_zero, List.set_cons_succ]
  refine wpAnyZ_take (i := 2) (v := ?v2z6) rfl (by kernel_rfl) (by kernel_rfl) (by kernel_rfl) (by kernel_rfl) (fun _ _ _ h => h) (Or.inl ⟨by rfl, ?hy2z6⟩) hbD ?_
  case hy2z6 => intro w hSw; (try dsimp only at hSw); first | (go_simp; done) | (go_simp; with_reducible rfl)
  try simp only [Act.put, List.getElem_toArray, List.getElem_cons_zero, List.getElem_cons_succ, List.setIfInBounds_toArray, List.set_cons_zero, List.set_cons_succ]
  refine wpAnyZ_one (i := 3) (by kernel_rfl) rfl (fun K hK => ?_)
  rw [if_pos (by kernel_rfl)]
  refine wp_store_row 49 _ _ rfl hrD 0 rfl [.int .i64 (1), .int .i64 (3), .int .i64 (e.tp), .int .i64 (e.bt), .int .i64 (e.en), .int .i64 (e.rm), .int .u64 (b), .int .u64 (x), .int .u64 (wd), .bool (false), .int .i64 (0)] [.int .i64 (1), .int .i64 (3), .int .i64 (e.tp), .int .i64 (e.bt), .int .i64 (e.en), .int .i64 (e.rm), .int .u64 (b), .int .u64 (x), .int .u64 (wd), .bool (false), .int .i64 (0)] rfl rfl (by simp) rfl (by kernel_rfl) ?_
  refine hK.out _ _ (fun h => absurd rfl h) ?_
  refine wpAnyZ_done (by kernel_rfl) ?_ _
  clear hK K
  have hr9 : Blk (w9.drew.setRow (w.heap.size + 1) ([.int .i64 (1), .int .i64 (3), .int .i64 (e.tp), .int .i64 (e.bt), .int .i64 (e.en), .int .i64 (e.rm), .int .u64 (b), .int .u64 (x), .int .u64 (wd), .bool (false), .int .i64 (0)] : List Value).toArray) (w.heap.size + 1) 49 [.int .i64 (1), .int .i64 (3), .int .i64 (e.tp), .int .i64 (e.bt), .int .i64 (e.en), .int .i64 (e.rm), .int .u64 (b), .int .u64 (x), .int .u64 (wd), .bool (false), .int .i64 (0)] := Blk.setRow hrD _
  have hk9 : Kept w (w9.drew.setRow (w.heap.size + 1) ([.int .i64 (1), .int .i64 (3), .int .i64 (e.tp), .int .i64 (e.bt), .int .i64 (e.en), .int .i64 (e.rm), .int .u64 (b), .int .u64 (x), .int .u64 (wd), .bool (false), .int .i64 (0)] : List Value).toArray) := Below.setRow (Below.drew hk) _ (by omega)
  have hc9 : Chg (fun q => q = w.heap.size + 1) w9 (w9.drew.setRow (w.heap.size + 1) ([.int .i64 (1), .int .i64 (3), .int .i64 (e.tp), .int .i64 (e.bt), .int .i64 (e.en), .int .i64 (e.rm), .int .u64 (b), .int .u64 (x), .int .u64 (wd), .bool (false), .int .i64 (0)] : List Value).toArray) := Chg.setRow (Chg.refl _ _).drew _ _ (fun _ => rfl)
  generalize (w9.drew.setRow (w.heap.size + 1) ([.int .i64 (1), .int .i64 (3), .int .i64 (e.tp), .int .i64 (e.bt), .int .i64 (e.en), .int .i64 (e.rm), .int .u64 (b), .int .u64 (x), .int .u64 (wd), .bool (false), .int .i64 (0)] : List Value).toArray) = w99 at *
  clear hbD hrD
  go_wp2_with fail
  exact bodyPost_ret (v := .tuple #[.slice mo ml mc, .agg ([.int .i64 (1), .int .i64 (3), .int .i64 (e.tp), .int .i64 (e.bt), .int .i64 (e.en), .int .i64 (e.rm), .int .u64 (b), .int .u64 (x), .int .u64 (wd), .bool (false), .int .i64 (0)] : List Value).toArray]) (results_tc (l := [.int .i64 (1), .int .i64 (3), .int .i64 (e.tp), .int .i64 (e.bt), .int .i64 (e.en), .int .i64 (e.rm), .int .u64 (b), .int .u64 (x), .int .u64 (wd), .bool (false), .int .i64 (0)]) Tryz.results75 rfl rfl hr9 _ Tryz.underlying49 rfl (by kernel_rfl)) rfl ⟨_, rfl, HM.out _ hk9, hk9, fun g e => .inl rfl⟩

set_option maxRecDepth 8000 in
set_option maxHeartbeats 1600000 in
theorem st8_top_neg {e : DEnds} {d : DQ} {mem : List Int} {l : Value} (w : World) (hm : MemV w l mem) (hall : ∀ x ∈ mem, U x) (_hlen : mem.length ≤ 20000) (he : e.ok) (hu : U d.b ∧ U d.t ∧ U d.wd) (hp : d.pc = .pushTop) (h0 : ¬ aheadI d.b (mget mem e.tp) ≥ 0) :
    Calls Tryz.prog 75 #[l, .agg (r8V e d).toArray] w fun r w' => ∃ l', r = .returned (.tuple #[l', .agg (r8V e (dqStep e mem d).2).toArray]) ∧ MemV w' l' (dqStep e mem d).1 ∧ Kept w w' ∧ (∀ g, l'.ownBlock = some g → l' = l ∨ w.heap.size ≤ g) := by
  obtain ⟨pc, b, t, wd, out, won⟩ := d
  simp only at hp hu h0
  subst hp
  obtain ⟨hub, hut, huw⟩ := hu
  simp only [r8V, dqStep]
  obtain ⟨mo, mc, hmv⟩ := hm.form
  obtain ⟨ml, hml⟩ : ∃ ml, ml = (mem.map (Value.int .u64)).length := ⟨_, rfl⟩
  rw [← hml] at hmv
  subst hmv
  clear hml
  have HM : Hid (∀ W, Kept w W → MemV W (.slice mo ml mc) mem) := fun W k => hm.kept k
  have HA : Hid (∀ x ∈ mem, U x) := hall
  have He : Hid e.ok := he
  clear hm hall he
  obtain ⟨x, hx⟩ : ∃ x, mget mem e.tp = x := ⟨_, rfl⟩
  have HX : Hid (mget mem e.tp = x) := hx
  have hUx : U x := hx ▸ mget_all HA.out e.tp
  rw [hx] at h0 ⊢
  clear hx
  obtain ⟨a, ha⟩ : ∃ a, aheadI b x = a := ⟨_, rfl⟩
  have HAH : Hid (aheadI b x = a) := ha
  have ha1 : -9223372036854775808 ≤ a ∧ a < 9223372036854775808 := by rw [← ha]; unfold aheadI; omega
  rw [ha] at h0 ⊢
  clear ha
  obtain ⟨mx, hmx⟩ : ∃ mx : Int, max e.rm 1 = mx := ⟨_, rfl⟩
  have HMX : Hid (max e.rm 1 = mx) := hmx
  have hmx0 : 0 < mx := by omega
  rw [hmx] at ⊢
  clear hmx

  rw [if_neg (show ¬ a ≥ mx by omega)]
  simp only []

  have hb0 := Blk.new w 49 [.int .i64 (1), .int .i64 (2), .int .i64 (e.tp), .int .i64 (e.bt), .int .i64 (e.en), .int .i64 (e.rm), .int .u64 (b), .int .u64 (t), .int .u64 (wd), .bool (false), .int .i64 (0)]
  have hk0 : Kept w (w.alloc (.cells ([.int .i64 (1), .int .i64 (2), .int .i64 (e.tp), .int .i64 (e.bt), .int .i64 (e.en), .int .i64 (e.rm), .int .u64 (b), .int .u64 (t), .int .u64 (wd), .bool (false), .int .i64 (0)] : List Value).toArray 49)) := (Below.refl _ _).alloc (Nat.le_refl _) _
  have z0 : (w.alloc (.cells ([.int .i64 (1), .int .i64 (2), .int .i64 (e.tp), .int .i64 (e.bt), .int .i64 (e.en), .int .i64 (e.rm), .int .u64 (b), .int .u64 (t), .int .u64 (wd), .bool (false), .int .i64 (0)] : List Value).toArray 49)).heap.size = w.heap.size + 1 := by simp
  go_enter Tryz.func75, Tryz.ntmps75
  go_wp2_with fail
  generalize w.alloc (.cells ([.int .i64 (1), .int .i64 (2), .int .i64 (e.tp), .int .i64 (e.bt), .int .i64 (e.en), .int .i64 (e.rm), .int .u64 (b), .int .u64 (t), .int .u64 (wd), .bool (false), .int .i64 (0)] : List Value).toArray 49) = w1 at *
  have hr0 := Blk.new w1 49 [.int .i64 0, .int .i64 0, .int .i64 0, .int .i64 0, .int .i64 0, .int .i64 0, .int .u64 0, .int .u64 0, .int .u64 0, .bool false, .int .i64 0]
  rw [z0] at hr0
  have hk1 : Kept w1 (w1.alloc (.cells ([.int .i64 0, .int .i64 0, .int .i64 0, .int .i64 0, .int .i64 0, .int .i64 0, .int .u64 0, .int .u64 0, .int .u64 0, .bool false, .int .i64 0] : List Value).toArray 49)) := (Below.refl _ _).alloc (Nat.le_refl _) _
  have z1 : (w1.alloc (.cells ([.int .i64 0, .int .i64 0, .int .i64 0, .int .i64 0, .int .i64 0, .int .i64 0, .int .u64 0, .int .u64 0, .int .u64 0, .bool false, .int .i64 0] : List Value).toArray 49)).heap.size = w.heap.size + 2 := by simp [z0]
  generalize w1.alloc (.cells ([.int .i64 0, .int .i64 0, .int .i64 0, .int .i64 0, .int .i64 0, .int .i64 0, .int .u64 0, .int .u64 0, .int .u64 0, .bool false, .int .i64 0] : List Value).toArray 49) = w2 at *
  have hb := (hk1.blk hb0)
  have hr := hr0
  have hk : Kept w w2 := (hk0.trans' hk1)
  clear hb0 hr0 hk0 hk1 z0
  have zN : w2.heap.size = w.heap.size + 2 := z1
  clear z1
  refine (loadL_ref e.tp w2 (HM.out w2 hk)).mono ?_; rintro r wx ⟨rfl, rfl⟩
  rw [HX.out]
  have b0 := hb.cell 0
  have b1 := hb.cell 1
  have b2 := hb.cell 2
  have b3 := hb.cell 3
  have b4 := hb.cell 4
  have b5 := hb.cell 5
  have b6 := hb.cell 6
  have b7 := hb.cell 7
  have b8 := hb.cell 8
  have b9 := hb.cell 9
  have b10 := hb.cell 10
  have fb7 := hb.free 7
  simp only [List.getElem?_cons_zero, List.getElem?_cons_succ] at b0 b1 b2 b3 b4 b5 b6 b7 b8 b9 b10
  go_wp2_with fail
  clear b0 b1 b2 b3 b4 b5 b6 b7 b8 b9 b10 fb7
  have hbx : Blk (w2.setCell ⟨w.heap.size, 7, none⟩ (.int .u64 (x))) (w.heap.size) 49 [.int .i64 (1), .int .i64 (2), .int .i64 (e.tp), .int .i64 (e.bt), .int .i64 (e.en), .int .i64 (e.rm), .int .u64 (b), .int .u64 (x), .int .u64 (wd), .bool (false), .int .i64 (0)] := (hb.set' 7 (.int .u64 (x)) rfl)
  have hcx := ((Chg.refl (fun q => q = w.heap.size) w2).setCell ⟨w.heap.size, 7, none⟩ (.int .u64 (x)) (fun _ => rfl))
  replace hr := hcx.blk hr (by simp <;> omega)
  replace hk := hk.trans (hcx.toBelow (B := w.heap.size) (by have := hk.size; omega) (fun q hq e => by omega))
  generalize (w2.setCell ⟨w.heap.size, 7, none⟩ (.int .u64 (x))) = w3 at *
  clear hcx hb
  have hb := hbx
  clear hbx
  refine (ahead8_ref b x w3 hub hUx).mono ?_; rintro r wx ⟨rfl, rfl⟩
  rw [HAH.out]
  have b0 := hb.cell 0
  have b1 := hb.cell 1
  have b2 := hb.cell 2
  have b3 := hb.cell 3
  have b4 := hb.cell 4
  have b5 := hb.cell 5
  have b6 := hb.cell 6
  have b7 := hb.cell 7
  have b8 := hb.cell 8
  have b9 := hb.cell 9
  have b10 := hb.cell 10
  have fb1 := hb.free 1
  simp only [List.getElem?_cons_zero, List.getElem?_cons_succ] at b0 b1 b2 b3 b4 b5 b6 b7 b8 b9 b10
  go_wp2_with fail
  clear b0 b1 b2 b3 b4 b5 b6 b7 b8 b9 b10 fb1
  have hbx : Blk (w3.setCell ⟨w.heap.size, 1, none⟩ (.int .i64 (3))) (w.heap.size) 49 [.int .i64 (1), .int .i64 (3), .int .i64 (e.tp), .int .i64 (e.bt), .int .i64 (e.en), .int .i64 (e.rm), .int .u64 (b), .int .u64 (x), .int .u64 (wd), .bool (false), .int .i64 (0)] := (hb.set' 1 (.int .i64 (3)) rfl)
  have hcx := ((Chg.refl (fun q => q = w.heap.size) w3).setCell ⟨w.heap.size, 1, none⟩ (.int .i64 (3)) (fun _ => rfl))
  replace hr := hcx.blk hr (by simp <;> omega)
  replace hk := hk.trans (hcx.toBelow (B := w.heap.size) (by have := hk.size; omega) (fun q hq e => by omega))
  generalize (w3.setCell ⟨w.heap.size, 1, none⟩ (.int .i64 (3))) = w4 at *
  clear hcx hb
  have hb := hbx
  clear hbx
  have b0 := hb.cell 0
  have b1 := hb.cell 1
  simp only [List.getElem?_cons_zero, List.getElem?_cons_succ] at b0 b1
  go_wp2_with fail
  clear b0 b1
  have hbD : Blk w4.drew (w.heap.size) 49 [.int .i64 (1), .int .i64 (3), .int .i64 (e.tp), .int .i64 (e.bt), .int .i64 (e.en), .int .i64 (e.rm), .int .u64 (b), .int .u64 (x), .int .u64 (wd), .bool (false), .int .i64 (0)] := hb
  have hrD : Blk w4.drew (w.heap.size + 1) 49 _ := hr
  refine wp_region_z 3 (fun w' => Blk w' (w.heap.size) 49 [.int .i64 (1), .int .i64 (3), .int .i64 (e.tp), .int .i64 (e.bt), .int .i64 (e.en), .int .i64 (e.rm), .int .u64 (b), .int .u64 (x), .int .u64 (wd), .bool (false), .int .i64 (0)]) (by kernel_rfl) ?_
  refine wpAnyZ_take (i := 0) (v := ?v0z7) rfl (by kernel_rfl) (by kernel_rfl) (by kernel_rfl) (by kernel_rfl) (fun _ _ _ h => h) (Or.inl ⟨by rfl, ?hy0z7⟩) hbD ?_
  case hy0z7 => intro w hSw; (try dsimp only at hSw); first | (go_simp; done) | (go_simp; with_reducible rfl)
  try simp only [Act.put, List.getElem_toArray, List.getElem_cons_zero, List.setIfInBounds_toArray, List.set_cons_zero, List.set_cons_succ]
  refine wpAnyZ_take (i := 1) (v := .agg ([.int .i64 (1), .int .i64 (3), .int .i64 (e.tp), .int .i64 (e.bt), .int .i64 (e.en), .int .i64 (e.rm), .int .u64 (b), .int .u64 (x), .int .u64 (wd), .bool (false), .int .i64 (0)] : List Value).toArray) rfl (by kernel_rfl) (by kernel_rfl) (by kernel_rfl) (by kernel_rfl) (fun _ _ _ h => h) (yieldsIf_load_mid rfl 49 _ rfl (w.heap.size) 0 rfl [.int .i64 (1), .int .i64 (3), .int .i64 (e.tp), .int .i64 (e.bt), .int .i64 (e.en), .int .i64 (e.rm), .int .u64 (b), .int .u64 (x), .int .u64 (wd), .bool (false), .int .i64 (0)] _ (fun w h => Blk.range h 0 _ rfl) Tryz.underlying49 rfl (by kernel_rfl)) hbD ?_
  try simp only [Act.put, List.getElem_toArray, List.getElem_cons_zero, List.getElem_cons_succ, List.setIfInBounds_toArray, List.set_cons_zero, List.set_cons_succ]
  refine wpAnyZ_take (i := 2) (v := ?v2z8) rfl (by kernel_rfl) (by kernel_rfl) (by kernel_rfl) (by kernel_rfl) (fun _ _ _ h => h) (Or.inl ⟨by rfl, ?hy2z8⟩) hbD ?_
  case hy2z8 => intro w hSw; (try dsimp only at hSw); first | (go_simp; done) | (go_simp; with_reducible rfl)
  try simp only [Act.put, List.getElem_toArray, List.getElem_cons_zero, List.getElem_cons_succ, List.setIfInBounds_toArray, List.set_cons_zero, List.set_cons_succ]
  refine wpAnyZ_one (i := 3) (by kernel_rfl) rfl (fun K hK => ?_)
  rw [if_pos (by kernel_rfl)]
  refine wp_store_row 49 _ _ rfl hrD 0 rfl [.int .i64 (1), .int .i64 (3), .int .i64 (e.tp), .int .i64 (e.bt), .int .i64 (e.en), .int .i64 (e.rm), .int .u64 (b), .int .u64 (x), .int .u64 (wd), .bool (false), .int .i64 (0)] [.int .i64 (1), .int .i64 (3), .int .i64 (e.tp), .int .i64 (e.bt), .int .i64 (e.en), .int .i64 (e.rm), .int .u64 (b), .int .u64 (x), .int .u64 (wd), .bool (false), .int .i64 (0)] rfl rfl (by simp) rfl (by kernel_rfl) ?_
  refine hK.out _ _ (fun h => absurd rfl h) ?_
  refine wpAnyZ_done (by kernel_rfl) ?_ _
  clear hK K
  have hr9 : Blk (w4.drew.setRow (w.heap.size + 1) ([.int .i64 (1), .int .i64 (3), .int .i64 (e.tp), .int .i64 (e.bt), .int .i64 (e.en), .int .i64 (e.rm), .int .u64 (b), .int .u64 (x), .int .u64 (wd), .bool (false), .int .i64 (0)] : List Value).toArray) (w.heap.size + 1) 49 [.int .i64 (1), .int .i64 (3), .int .i64 (e.tp), .int .i64 (e.bt), .int .i64 (e.en), .int .i64 (e.rm), .int .u64 (b), .int .u64 (x), .int .u64 (wd), .bool (false), .int .i64 (0)] := Blk.setRow hrD _
  have hk9 : Kept w (w4.drew.setRow (w.heap.size + 1) ([.int .i64 (1), .int .i64 (3), .int .i64 (e.tp), .int .i64 (e.bt), .int .i64 (e.en), .int .i64 (e.rm), .int .u64 (b), .int .u64 (x), .int .u64 (wd), .bool (false), .int .i64 (0)] : List Value).toArray) := Below.setRow (Below.drew hk) _ (by omega)
  have hc9 : Chg (fun q => q = w.heap.size + 1) w4 (w4.drew.setRow (w.heap.size + 1) ([.int .i64 (1), .int .i64 (3), .int .i64 (e.tp), .int .i64 (e.bt), .int .i64 (e.en), .int .i64 (e.rm), .int .u64 (b), .int .u64 (x), .int .u64 (wd), .bool (false), .int .i64 (0)] : List Value).toArray) := Chg.setRow (Chg.refl _ _).drew _ _ (fun _ => rfl)
  generalize (w4.drew.setRow (w.heap.size + 1) ([.int .i64 (1), .int .i64 (3), .int .i64 (e.tp), .int .i64 (e.bt), .int .i64 (e.en), .int .i64 (e.rm), .int .u64 (b), .int .u64 (x), .int .u64 (wd), .bool (false), .int .i64 (0)] : List Value).toArray) = w99 at *
  clear hbD hrD
  go_wp2_with fail
  exact bodyPost_ret (v := .tuple #[.slice mo ml mc, .agg ([.int .i64 (1), .int .i64 (3), .int .i64 (e.tp), .int .i64 (e.bt), .int .i64 (e.en), .int .i64 (e.rm), .int .u64 (b), .int .u64 (x), .int .u64 (wd), .bool (false), .int .i64 (0)] : List Value).toArray]) (results_tc (l := [.int .i64 (1), .int .i64 (3), .int .i64 (e.tp), .int .i64 (e.bt), .int .i64 (e.en), .int .i64 (e.rm), .int .u64 (b), .int .u64 (x), .int .u64 (wd), .bool (false), .int .i64 (0)]) Tryz.results75 rfl rfl hr9 _ Tryz.underlying49 rfl (by kernel_rfl)) rfl ⟨_, rfl, HM.out _ hk9, hk9, fun g e => .inl rfl⟩

end Go.Proofs.YtfbcadknimfhjaaGreat

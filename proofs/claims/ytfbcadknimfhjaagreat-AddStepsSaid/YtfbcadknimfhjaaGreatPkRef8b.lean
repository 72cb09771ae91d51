/- The document's deque: what its machine writes when it pushes; any step: walked. -/
import Derived.Test.YtfbcadknimfhjaaGreatPkRef8
namespace Go.Proofs.YtfbcadknimfhjaaGreat
open Go.RowKit

set_option maxRecDepth 8000 in
set_option maxHeartbeats 1600000 in
theorem st8_entry {e : DEnds} {d : DQ} {mem : List Int} {l : Value} (w : World) (hm : MemV w l mem) (hall : ∀ x ∈ mem, U x) (hlen : mem.length ≤ 20000) (he : e.ok) (hu : U d.b ∧ U d.t ∧ U d.wd) (hp : d.pc = .pushEntry) :
    Calls Tryz.prog 75 #[l, .agg (r8V e d).toArray] w fun r w' => ∃ l', r = .returned (.tuple #[l', .agg (r8V e (dqStep e mem d).2).toArray]) ∧ MemV w' l' (dqStep e mem d).1 ∧ Kept w w' ∧ (∀ g, l'.ownBlock = some g → l' = l ∨ w.heap.size ≤ g) := by
  obtain ⟨pc, b, t, wd, out, won⟩ := d
  simp only at hp hu
  subst hp
  obtain ⟨hub, hut, huw⟩ := hu
  simp only [r8V, dqStep]
  obtain ⟨mo, mc, hmv⟩ := hm.form
  obtain ⟨ml, hml⟩ : ∃ ml, ml = (mem.map (Value.int .u64)).length := ⟨_, rfl⟩
  rw [← hml] at hmv
  subst hmv
  clear hml
  have HM : Hid (∀ W, Kept w W → MemV W (.slice mo ml mc) mem) := fun W k => hm.kept k
  have HA : Hid (∀ x ∈ mem, U x) := hall
  have He : Hid e.ok := he
  clear hm hall he
  obtain ⟨y, hy⟩ : ∃ y, entI e b = y := ⟨_, rfl⟩
  have HY : Hid (entI e b = y) := hy
  rw [hy]
  clear hy
  have hb0 := Blk.new w 49 [.int .i64 (1), .int .i64 (3), .int .i64 (e.tp), .int .i64 (e.bt), .int .i64 (e.en), .int .i64 (e.rm), .int .u64 (b), .int .u64 (t), .int .u64 (wd), .bool (false), .int .i64 (0)]
  have hk0 : Kept w (w.alloc (.cells ([.int .i64 (1), .int .i64 (3), .int .i64 (e.tp), .int .i64 (e.bt), .int .i64 (e.en), .int .i64 (e.rm), .int .u64 (b), .int .u64 (t), .int .u64 (wd), .bool (false), .int .i64 (0)] : List Value).toArray 49)) := (Below.refl _ _).alloc (Nat.le_refl _) _
  have z0 : (w.alloc (.cells ([.int .i64 (1), .int .i64 (3), .int .i64 (e.tp), .int .i64 (e.bt), .int .i64 (e.en), .int .i64 (e.rm), .int .u64 (b), .int .u64 (t), .int .u64 (wd), .bool (false), .int .i64 (0)] : List Value).toArray 49)).heap.size = w.heap.size + 1 := by simp
  go_enter Tryz.func75, Tryz.ntmps75
  go_wp2_with fail
  generalize w.alloc (.cells ([.int .i64 (1), .int .i64 (3), .int .i64 (e.tp), .int .i64 (e.bt), .int .i64 (e.en), .int .i64 (e.rm), .int .u64 (b), .int .u64 (t), .int .u64 (wd), .bool (false), .int .i64 (0)] : List Value).toArray 49) = w1 at *
  have hr0 := Blk.new w1 49 [.int .i64 0, .int .i64 0, .int .i64 0, .int .i64 0, .int .i64 0, .int .i64 0, .int .u64 0, .int .u64 0, .int .u64 0, .bool false, .int .i64 0]
  rw [z0] at hr0
  have hk1 : Kept w1 (w1.alloc (.cells ([.int .i64 0, .int .i64 0, .int .i64 0, .int .i64 0, .int .i64 0, .int .i64 0, .int .u64 0, .int .u64 0, .int .u64 0, .bool false, .int .i64 0] : List Value).toArray 49)) := (Below.refl _ _).alloc (Nat.le_refl _) _
  have z1 : (w1.alloc (.cells ([.int .i64 0, .int .i64 0, .int .i64 0, .int .i64 0, .int .i64 0, .int .i64 0, .int .u64 0, .int .u64 0, .int .u64 0, .bool false, .int .i64 0] : List Value).toArray 49)).heap.size = w.heap.size + 2 := by simp [z0]
  generalize w1.alloc (.cells ([.int .i64 0, .int .i64 0, .int .i64 0, .int .i64 0, .int .i64 0, .int .i64 0, .int .u64 0, .int .u64 0, .int .u64 0, .bool false, .int .i64 0] : List Value).toArray 49) = w2 at *
  have hb := (hk1.blk hb0)
  have hr := hr0
  have hk : Kept w w2 := (hk0.trans' hk1)
  clear hb0 hr0 hk0 hk1 z0
  have zN : w2.heap.size = w.heap.size + 2 := z1
  clear z1
  have hbD := hb.drew
  have hrD := hr.drew
  have hkD : Kept w w2.drew := hk.drew
  have b0 := hb.cell 0
  have b1 := hb.cell 1
  have b2 := hb.cell 2
  have b3 := hb.cell 3
  have b4 := hb.cell 4
  have b5 := hb.cell 5
  have b6 := hb.cell 6
  have b7 := hb.cell 7
  have b8 := hb.cell 8
  have b9 := hb.cell 9
  have b10 := hb.cell 10
  simp only [List.getElem?_cons_zero, List.getElem?_cons_succ] at b0 b1 b2 b3 b4 b5 b6 b7 b8 b9 b10
  have d0 := hbD.cell 0
  have d1 := hbD.cell 1
  have d2 := hbD.cell 2
  have d3 := hbD.cell 3
  have d4 := hbD.cell 4
  have d5 := hbD.cell 5
  have d6 := hbD.cell 6
  have d7 := hbD.cell 7
  have d8 := hbD.cell 8
  have d9 := hbD.cell 9
  have d10 := hbD.cell 10
  simp only [List.getElem?_cons_zero, List.getElem?_cons_succ] at d0 d1 d2 d3 d4 d5 d6 d7 d8 d9 d10
  go_wp2_with fail
  refine wp_region_z 99 (fun w' => w'.cell? ⟨w.heap.size, 0, none⟩ = some (.int .i64 (1)) ∧ w'.cell? ⟨w.heap.size, 1, none⟩ = some (.int .i64 (3)) ∧ w'.cell? ⟨w.heap.size, 2, none⟩ = some (.int .i64 (e.tp)) ∧ w'.cell? ⟨w.heap.size, 3, none⟩ = some (.int .i64 (e.bt)) ∧ w'.cell? ⟨w.heap.size, 4, none⟩ = some (.int .i64 (e.en)) ∧ w'.cell? ⟨w.heap.size, 5, none⟩ = some (.int .i64 (e.rm)) ∧ w'.cell? ⟨w.heap.size, 6, none⟩ = some (.int .u64 (b)) ∧ w'.cell? ⟨w.heap.size, 7, none⟩ = some (.int .u64 (t)) ∧ w'.cell? ⟨w.heap.size, 8, none⟩ = some (.int .u64 (wd)) ∧ w'.cell? ⟨w.heap.size, 9, none⟩ = some (.bool (false)) ∧ w'.cell? ⟨w.heap.size, 10, none⟩ = some (.int .i64 (0))) (by kernel_rfl) ?_
  refine wpAnyZ_takeN (i := 0) (v := ?v0z1) rfl (by kernel_rfl) (by kernel_rfl) (by kernel_rfl) (by kernel_rfl) (fun _ _ _ h => h) (Or.inl ⟨by rfl, ?hy0z1⟩) ⟨d0,d1,d2,d3,d4,d5,d6,d7,d8,d9,d10⟩ ?_
  case hy0z1 => intro w hSw; (try dsimp only at hSw); first | (go_simp; done) | (go_simp; with_reducible rfl)
  try simp only [Act.put, List.getElem_toArray, List.getElem_cons_zero, List.setIfInBounds_toArray, List.set_cons_zero, List.set_cons_succ]
  refine wpAnyZ_takeN (i := 1) (v := ?v1z1) rfl (by kernel_rfl) (by kernel_rfl) (by kernel_rfl) (by kernel_rfl) (fun _ _ _ h => h) (Or.inl ⟨by rfl, ?hy1z1⟩) ⟨d0,d1,d2,d3,d4,d5,d6,d7,d8,d9,d10⟩ ?_
  case hy1z1 => intro w hSw; (try dsimp only at hSw); first | (go_simp; done) | (go_simp; with_reducible rfl)
  try simp only [Act.put, List.getElem_toArray, List.getElem_cons_zero, List.getElem_cons_succ, List.setIfInBounds_toArray, List.set_cons_zero, List.set_cons_succ]
  refine wpAnyZ_takeN (i := 2) (v := ?v2z1) rfl (by kernel_rfl) (by kernel_rfl) (by kernel_rfl) (by kernel_rfl) (fun _ _ _ h => h) (Or.inl ⟨by rfl, ?hy2z1⟩) ⟨d0,d1,d2,d3,d4,d5,d6,d7,d8,d9,d10⟩ ?_
  case hy2z1 => intro w hSw; (try dsimp only at hSw); first | (go_simp; done) | (go_simp; with_reducible rfl)
  try simp only [Act.put, List.getElem_toArray, List.getElem_cons_zero, List.getElem_cons_succ, List.setIfInBounds_toArray, List.set_cons_zero, List.set_cons_succ]
  refine wpAnyZ_takeN (i := 3) (v := ?v3z1) rfl (by kernel_rfl) (by kernel_rfl) (by kernel_rfl) (by kernel_rfl) (fun _ _ _ h => h) (Or.inl ⟨by rfl, ?hy3z1⟩) ⟨d0,d1,d2,d3,d4,d5,d6,d7,d8,d9,d10⟩ ?_
  case hy3z1 => intro w hSw; (try dsimp only at hSw); first | (go_simp; done) | (go_simp; with_reducible rfl)
  try simp only [Act.put, List.getElem_toArray, List.getElem_cons_zero, List.getElem_cons_succ, List.setIfInBounds_toArray, List.set_cons_zero, List.set_cons_succ]
  refine wpAnyZ_takeN (i := 4) (v := ?v4z1) rfl (by kernel_rfl) (by kernel_rfl) (by kernel_rfl) (by kernel_rfl) (fun _ _ _ h => h) (Or.inl ⟨by rfl, ?hy4z1⟩) ⟨d0,d1,d2,d3,d4,d5,d6,d7,d8,d9,d10⟩ ?_
  case hy4z1 => intro w hSw; (try dsimp only at hSw); first | (go_simp; done) | (go_simp; with_reducible rfl)
  try simp only [Act.put, List.getElem_toArray, List.getElem_cons_zero, List.getElem_cons_succ, List.setIfInBounds_toArray, List.set_cons_zero, List.set_cons_succ]
  refine wpAnyZ_takeN (i := 6) (v := ?v6z1) rfl (by kernel_rfl) (by kernel_rfl) (by kernel_rfl) (by kernel_rfl) (fun _ _ _ h => h) (Or.inl ⟨by rfl, ?hy6z1⟩) ⟨d0,d1,d2,d3,d4,d5,d6,d7,d8,d9,d10⟩ ?_
  case hy6z1 => intro w hSw; (try dsimp only at hSw); first | (go_simp; done) | (go_simp; with_reducible rfl)
  try simp only [Act.put, List.getElem_toArray, List.getElem_cons_zero, List.getElem_cons_succ, List.setIfInBounds_toArray, List.set_cons_zero, List.set_cons_succ]
  refine wpAnyZ_takeN (i := 7) (v := ?v7z1) rfl (by kernel_rfl) (by kernel_rfl) (by kernel_rfl) (by kernel_rfl) (fun _ _ _ h => h) (Or.inl ⟨by rfl, ?hy7z1⟩) ⟨d0,d1,d2,d3,d4,d5,d6,d7,d8,d9,d10⟩ ?_
  case hy7z1 => intro w hSw; (try dsimp only at hSw); first | (go_simp; done) | (go_simp; with_reducible rfl)
  try simp only [Act.put, List.getElem_toArray, List.getElem_cons_zero, List.getElem_cons_succ, List.setIfInBounds_toArray, List.set_cons_zero, List.set_cons_succ]
  refine wpAnyZ_one (i := 5) (by kernel_rfl) rfl (fun K hK => ?_)
  go_simp
  go_at_call 96
  refine (entry8_ref e b _ He.out hub).mono ?_; rintro r w5 ⟨rfl, hkc⟩
  rw [HY.out]
  have hb5 := hkc.blk hbD
  have hr5 := hkc.blk hrD
  have hk5 := Kept.trans' hkD hkc
  clear hkc
  have x0 := hb5.cell 0
  have x1 := hb5.cell 1
  have x2 := hb5.cell 2
  have x3 := hb5.cell 3
  have x4 := hb5.cell 4
  have x5 := hb5.cell 5
  have x6 := hb5.cell 6
  have x7 := hb5.cell 7
  have x8 := hb5.cell 8
  have x9 := hb5.cell 9
  have x10 := hb5.cell 10
  simp only [List.getElem?_cons_zero, List.getElem?_cons_succ] at x0 x1 x2 x3 x4 x5 x6 x7 x8 x9 x10
  refine hK.out _ _ (fun _ => ⟨x0,x1,x2,x3,x4,x5,x6,x7,x8,x9,x10⟩) ?_
  clear hK K
  try simp only [Act.put, List.setIfInBounds_toArray, List.set_cons_zero, List.set_cons_succ]
  refine wpAnyZ_one (i := 8) (by kernel_rfl) rfl (fun K hK => ?_)
  go_simp
  go_at_call 22
  refine (putL_ref y wd _ (HM.out _ hk5) hlen).mono ?_; rintro r w6 ⟨l', rfl, hl', hkc, hown⟩
  have hb6 := hkc.blk hb5
  have hr6 := hkc.blk hr5
  have hk6 := Kept.trans' hk5 hkc
  have z5 : w.heap.size + 1 < w5.heap.size := hr5.lt
  clear hkc
  have g0 := hb6.cell 0
  have g1 := hb6.cell 1
  have g2 := hb6.cell 2
  have g3 := hb6.cell 3
  have g4 := hb6.cell 4
  have g5 := hb6.cell 5
  have g6 := hb6.cell 6
  have g7 := hb6.cell 7
  have g8 := hb6.cell 8
  have g9 := hb6.cell 9
  have g10 := hb6.cell 10
  simp only [List.getElem?_cons_zero, List.getElem?_cons_succ] at g0 g1 g2 g3 g4 g5 g6 g7 g8 g9 g10
  refine hK.out _ _ (fun _ => ⟨g0,g1,g2,g3,g4,g5,g6,g7,g8,g9,g10⟩) ?_
  clear hK K
  try simp only [Act.put, List.setIfInBounds_toArray, List.set_cons_zero, List.set_cons_succ]
  refine wpAnyZ_takeN (i := 9) (v := ?v9z2) rfl (by kernel_rfl) (by kernel_rfl) (by kernel_rfl) (by kernel_rfl) (fun _ _ _ h => h) (Or.inl ⟨by rfl, ?hy9z2⟩) ⟨g0,g1,g2,g3,g4,g5,g6,g7,g8,g9,g10⟩ ?_
  case hy9z2 => intro w hSw; (try dsimp only at hSw); first | (go_simp; done) | (go_simp; with_reducible rfl)
  try simp only [Act.put, List.getElem_toArray, List.getElem_cons_zero, List.getElem_cons_succ, List.setIfInBounds_toArray, List.set_cons_zero]
  refine wpAnyZ_done (by kernel_rfl) ?_ _
  clear b0 b1 b2 b3 b4 b5 b6 b7 b8 b9 b10 d0 d1 d2 d3 d4 d5 d6 d7 d8 d9 d10 x0 x1 x2 x3 x4 x5 x6 x7 x8 x9 x10 g0 g1 g2 g3 g4 g5 g6 g7 g8 g9 g10 hb hr hk hbD hrD hkD hb5 hr5 hk5
  have hb := hb6
  have hr := hr6
  have hk := hk6
  clear hb6 hr6 hk6
  have hcL : Chg (fun q => w.heap.size ≤ q ∧ q < w.heap.size + 2) w6 w6 := Chg.refl _ _
  have b0 := hb.cell 0
  have b1 := hb.cell 1
  have b2 := hb.cell 2
  have b3 := hb.cell 3
  have b4 := hb.cell 4
  have b5 := hb.cell 5
  have b6 := hb.cell 6
  have b7 := hb.cell 7
  have b8 := hb.cell 8
  have b9 := hb.cell 9
  have b10 := hb.cell 10
  have fb1 := hb.free 1
  simp only [List.getElem?_cons_zero, List.getElem?_cons_succ] at b0 b1 b2 b3 b4 b5 b6 b7 b8 b9 b10
  go_wp2_with fail
  clear b0 b1 b2 b3 b4 b5 b6 b7 b8 b9 b10 fb1
  have hbx : Blk (w6.setCell ⟨w.heap.size, 1, none⟩ (.int .i64 (4))) (w.heap.size) 49 [.int .i64 (1), .int .i64 (4), .int .i64 (e.tp), .int .i64 (e.bt), .int .i64 (e.en), .int .i64 (e.rm), .int .u64 (b), .int .u64 (t), .int .u64 (wd), .bool (false), .int .i64 (0)] := (hb.set' 1 (.int .i64 (4)) rfl)
  have hcx := ((Chg.refl (fun q => q = w.heap.size) w6).setCell ⟨w.heap.size, 1, none⟩ (.int .i64 (4)) (fun _ => rfl))
  replace hr := hcx.blk hr (by simp <;> omega)
  replace hcL := hcL.trans (hcx.mono (fun q _ e => by omega))
  replace hk := hk.trans (hcx.toBelow (B := w.heap.size) (by have := hk.size; omega) (fun q hq e => by omega))
  generalize (w6.setCell ⟨w.heap.size, 1, none⟩ (.int .i64 (4))) = w7 at *
  clear hcx hb
  have hb := hbx
  clear hbx
  have b0 := hb.cell 0
  have b1 := hb.cell 1
  simp only [List.getElem?_cons_zero, List.getElem?_cons_succ] at b0 b1
  go_wp2_with fail
  clear b0 b1
  have hbD : Blk w7.drew (w.heap.size) 49 [.int .i64 (1), .int .i64 (4), .int .i64 (e.tp), .int .i64 (e.bt), .int .i64 (e.en), .int .i64 (e.rm), .int .u64 (b), .int .u64 (t), .int .u64 (wd), .bool (false), .int .i64 (0)] := hb
  have hrD : Blk w7.drew (w.heap.size + 1) 49 _ := hr
  refine wp_region_z 3 (fun w' => Blk w' (w.heap.size) 49 [.int .i64 (1), .int .i64 (4), .int .i64 (e.tp), .int .i64 (e.bt), .int .i64 (e.en), .int .i64 (e.rm), .int .u64 (b), .int .u64 (t), .int .u64 (wd), .bool (false), .int .i64 (0)]) (by kernel_rfl) ?_
  refine wpAnyZ_take (i := 0) (v := ?v0z3) rfl (by kernel_rfl) (by kernel_rfl) (by kernel_rfl) (by kernel_rfl) (fun _ _ _ h => h) (Or.inl ⟨by rfl, ?hy0z3⟩) hbD ?_
  case hy0z3 => intro w hSw; (try dsimp only at hSw); first | (go_simp; done) | (go_simp; with_reducible rfl)
  try simp only [Act.put, List.getElem_toArray, List.getElem_cons_zero, List.setIfInBounds_toArray, List.set_cons_zero, List.set_cons_succ]
  refine wpAnyZ_take (i := 1) (v := .agg ([.int .i64 (1), .int .i64 (4), .int .i64 (e.tp), .int .i64 (e.bt), .int .i64 (e.en), .int .i64 (e.rm), .int .u64 (b), .int .u64 (t), .int .u64 (wd), .bool (false), .int .i64 (0)] : List Value).toArray) rfl (by kernel_rfl) (by kernel_rfl) (by kernel_rfl) (by kernel_rfl) (fun _ _ _ h => h) (yieldsIf_load_mid rfl 49 _ rfl (w.heap.size) 0 rfl [.int .i64 (1), .int .i64 (4), .int .i64 (e.tp), .int .i64 (e.bt), .int .i64 (e.en), .int .i64 (e.rm), .int .u64 (b), .int .u64 (t), .int .u64 (wd), .bool (false), .int .i64 (0)] _ (fun w h => Blk.range h 0 _ rfl) Tryz.underlying49 rfl (by kernel_rfl)) hbD ?_
  try simp only [Act.put, List.getElem_toArray, List.getElem_cons_zero, List.getElem_cons_succ, List.setIfInBounds_toArray, List.set_cons_zero, List.set_cons_succ]
  refine wpAnyZ_take (i := 2) (v := ?v2z4) rfl (by kernel_rfl) (by kernel_rfl) (by kernel_rfl) (by kernel_rfl) (fun _ _ _ h => h) (Or.inl ⟨by rfl, ?hy2z4⟩) hbD ?_
  case hy2z4 => intro w hSw; (try dsimp only at hSw); first | (go_simp; done) | (go_simp; with_reducible rfl)
  try simp only [Act.put, List.getElem_toArray, List.getElem_cons_zero, List.getElem_cons_succ, List.setIfInBounds_toArray, List.set_cons_zero, List.set_cons_succ]
  refine wpAnyZ_one (i := 3) (by kernel_rfl) rfl (fun K hK => ?_)
  rw [if_pos (by kernel_rfl)]
  refine wp_store_row 49 _ _ rfl hrD 0 rfl [.int .i64 (1), .int .i64 (4), .int .i64 (e.tp), .int .i64 (e.bt), .int .i64 (e.en), .int .i64 (e.rm), .int .u64 (b), .int .u64 (t), .int .u64 (wd), .bool (false), .int .i64 (0)] [.int .i64 (1), .int .i64 (4), .int .i64 (e.tp), .int .i64 (e.bt), .int .i64 (e.en), .int .i64 (e.rm), .int .u64 (b), .int .u64 (t), .int .u64 (wd), .bool (false), .int .i64 (0)] rfl rfl (by simp) rfl (by kernel_rfl) ?_
  refine hK.out _ _ (fun h => absurd rfl h) ?_
  refine wpAnyZ_done (by kernel_rfl) ?_ _
  clear hK K
  have hr9 : Blk (w7.drew.setRow (w.heap.size + 1) ([.int .i64 (1), .int .i64 (4), .int .i64 (e.tp), .int .i64 (e.bt), .int .i64 (e.en), .int .i64 (e.rm), .int .u64 (b), .int .u64 (t), .int .u64 (wd), .bool (false), .int .i64 (0)] : List Value).toArray) (w.heap.size + 1) 49 [.int .i64 (1), .int .i64 (4), .int .i64 (e.tp), .int .i64 (e.bt), .int .i64 (e.en), .int .i64 (e.rm), .int .u64 (b), .int .u64 (t), .int .u64 (wd), .bool (false), .int .i64 (0)] := Blk.setRow hrD _
  have hk9 : Kept w (w7.drew.setRow (w.heap.size + 1) ([.int .i64 (1), .int .i64 (4), .int .i64 (e.tp), .int .i64 (e.bt), .int .i64 (e.en), .int .i64 (e.rm), .int .u64 (b), .int .u64 (t), .int .u64 (wd), .bool (false), .int .i64 (0)] : List Value).toArray) := Below.setRow (Below.drew hk) _ (by omega)
  have hc9 : Chg (fun q => q = w.heap.size + 1) w7 (w7.drew.setRow (w.heap.size + 1) ([.int .i64 (1), .int .i64 (4), .int .i64 (e.tp), .int .i64 (e.bt), .int .i64 (e.en), .int .i64 (e.rm), .int .u64 (b), .int .u64 (t), .int .u64 (wd), .bool (false), .int .i64 (0)] : List Value).toArray) := Chg.setRow (Chg.refl _ _).drew _ _ (fun _ => rfl)
  generalize (w7.drew.setRow (w.heap.size + 1) ([.int .i64 (1), .int .i64 (4), .int .i64 (e.tp), .int .i64 (e.bt), .int .i64 (e.en), .int .i64 (e.rm), .int .u64 (b), .int .u64 (t), .int .u64 (wd), .bool (false), .int .i64 (0)] : List Value).toArray) = w99 at *
  clear hbD hrD
  go_wp2_with fail
  exact bodyPost_ret (v := .tuple #[l', .agg ([.int .i64 (1), .int .i64 (4), .int .i64 (e.tp), .int .i64 (e.bt), .int .i64 (e.en), .int .i64 (e.rm), .int .u64 (b), .int .u64 (t), .int .u64 (wd), .bool (false), .int .i64 (0)] : List Value).toArray]) (results_tc (l := [.int .i64 (1), .int .i64 (4), .int .i64 (e.tp), .int .i64 (e.bt), .int .i64 (e.en), .int .i64 (e.rm), .int .u64 (b), .int .u64 (t), .int .u64 (wd), .bool (false), .int .i64 (0)]) Tryz.results75 rfl rfl hr9 _ Tryz.underlying49 rfl (by kernel_rfl)) rfl ⟨_, rfl, (HM.out w (Below.refl _ _)).past hl' (by simp [mput_len]) (fun q e => by omega) hown (hcL.trans (hc9.mono (fun q _ e => by omega))), hk9, fun g e => (hown g e).imp id (fun e => by omega)⟩

set_option maxRecDepth 8000 in
set_option maxHeartbeats 1600000 in
theorem st8_end {e : DEnds} {d : DQ} {mem : List Int} {l : Value} (w : World) (hm : MemV w l mem) (hall : ∀ x ∈ mem, U x) (hlen : mem.length ≤ 20000) (he : e.ok) (hu : U d.b ∧ U d.t ∧ U d.wd) (hp : d.pc = .pushEnd) :
    Calls Tryz.prog 75 #[l, .agg (r8V e d).toArray] w fun r w' => ∃ l', r = .returned (.tuple #[l', .agg (r8V e (dqStep e mem d).2).toArray]) ∧ MemV w' l' (dqStep e mem d).1 ∧ Kept w w' ∧ (∀ g, l'.ownBlock = some g → l' = l ∨ w.heap.size ≤ g) := by
  obtain ⟨pc, b, t, wd, out, won⟩ := d
  simp only at hp hu
  subst hp
  obtain ⟨hub, hut, huw⟩ := hu
  simp only [r8V, dqStep]
  obtain ⟨mo, mc, hmv⟩ := hm.form
  obtain ⟨ml, hml⟩ : ∃ ml, ml = (mem.map (Value.int .u64)).length := ⟨_, rfl⟩
  rw [← hml] at hmv
  subst hmv
  clear hml
  have HM : Hid (∀ W, Kept w W → MemV W (.slice mo ml mc) mem) := fun W k => hm.kept k
  have HA : Hid (∀ x ∈ mem, U x) := hall
  have He : Hid e.ok := he
  clear hm hall he
  obtain ⟨bo, hbo⟩ : ∃ bo, (b + 1) % 18446744073709551616 = bo := ⟨_, rfl⟩
  have yb : IntKind.u64.wrap (b + 1) = bo := by rw [IntKind.wrap_u64, hbo]
  rw [hbo]
  clear hbo
  have hb0 := Blk.new w 49 [.int .i64 (1), .int .i64 (4), .int .i64 (e.tp), .int .i64 (e.bt), .int .i64 (e.en), .int .i64 (e.rm), .int .u64 (b), .int .u64 (t), .int .u64 (wd), .bool (false), .int .i64 (0)]
  have hk0 : Kept w (w.alloc (.cells ([.int .i64 (1), .int .i64 (4), .int .i64 (e.tp), .int .i64 (e.bt), .int .i64 (e.en), .int .i64 (e.rm), .int .u64 (b), .int .u64 (t), .int .u64 (wd), .bool (false), .int .i64 (0)] : List Value).toArray 49)) := (Below.refl _ _).alloc (Nat.le_refl _) _
  have z0 : (w.alloc (.cells ([.int .i64 (1), .int .i64 (4), .int .i64 (e.tp), .int .i64 (e.bt), .int .i64 (e.en), .int .i64 (e.rm), .int .u64 (b), .int .u64 (t), .int .u64 (wd), .bool (false), .int .i64 (0)] : List Value).toArray 49)).heap.size = w.heap.size + 1 := by simp
  go_enter Tryz.func75, Tryz.ntmps75
  go_wp2_with fail
  generalize w.alloc (.cells ([.int .i64 (1), .int .i64 (4), .int .i64 (e.tp), .int .i64 (e.bt), .int .i64 (e.en), .int .i64 (e.rm), .int .u64 (b), .int .u64 (t), .int .u64 (wd), .bool (false), .int .i64 (0)] : List Value).toArray 49) = w1 at *
  have hr0 := Blk.new w1 49 [.int .i64 0, .int .i64 0, .int .i64 0, .int .i64 0, .int .i64 0, .int .i64 0, .int .u64 0, .int .u64 0, .int .u64 0, .bool false, .int .i64 0]
  rw [z0] at hr0
  have hk1 : Kept w1 (w1.alloc (.cells ([.int .i64 0, .int .i64 0, .int .i64 0, .int .i64 0, .int .i64 0, .int .i64 0, .int .u64 0, .int .u64 0, .int .u64 0, .bool false, .int .i64 0] : List Value).toArray 49)) := (Below.refl _ _).alloc (Nat.le_refl _) _
  have z1 : (w1.alloc (.cells ([.int .i64 0, .int .i64 0, .int .i64 0, .int .i64 0, .int .i64 0, .int .i64 0, .int .u64 0, .int .u64 0, .int .u64 0, .bool false, .int .i64 0] : List Value).toArray 49)).heap.size = w.heap.size + 2 := by simp [z0]
  generalize w1.alloc (.cells ([.int .i64 0, .int .i64 0, .int .i64 0, .int .i64 0, .int .i64 0, .int .i64 0, .int .u64 0, .int .u64 0, .int .u64 0, .bool false, .int .i64 0] : List Value).toArray 49) = w2 at *
  have hb := (hk1.blk hb0)
  have hr := hr0
  have hk : Kept w w2 := (hk0.trans' hk1)
  clear hb0 hr0 hk0 hk1 z0
  have zN : w2.heap.size = w.heap.size + 2 := z1
  clear z1
  have hbD := hb.drew
  have hrD := hr.drew
  have hkD : Kept w w2.drew := hk.drew
  have b0 := hb.cell 0
  have b1 := hb.cell 1
  have b2 := hb.cell 2
  have b3 := hb.cell 3
  have b4 := hb.cell 4
  have b5 := hb.cell 5
  have b6 := hb.cell 6
  have b7 := hb.cell 7
  have b8 := hb.cell 8
  have b9 := hb.cell 9
  have b10 := hb.cell 10
  simp only [List.getElem?_cons_zero, List.getElem?_cons_succ] at b0 b1 b2 b3 b4 b5 b6 b7 b8 b9 b10
  have d0 := hbD.cell 0
  have d1 := hbD.cell 1
  have d2 := hbD.cell 2
  have d3 := hbD.cell 3
  have d4 := hbD.cell 4
  have d5 := hbD.cell 5
  have d6 := hbD.cell 6
  have d7 := hbD.cell 7
  have d8 := hbD.cell 8
  have d9 := hbD.cell 9
  have d10 := hbD.cell 10
  simp only [List.getElem?_cons_zero, List.getElem?_cons_succ] at d0 d1 d2 d3 d4 d5 d6 d7 d8 d9 d10
  go_wp2_with fail
  refine wp_region_z 11 (fun w' => w'.cell? ⟨w.heap.size, 0, none⟩ = some (.int .i64 (1)) ∧ w'.cell? ⟨w.heap.size, 1, none⟩ = some (.int .i64 (4)) ∧ w'.cell? ⟨w.heap.size, 2, none⟩ = some (.int .i64 (e.tp)) ∧ w'.cell? ⟨w.heap.size, 3, none⟩ = some (.int .i64 (e.bt)) ∧ w'.cell? ⟨w.heap.size, 4, none⟩ = some (.int .i64 (e.en)) ∧ w'.cell? ⟨w.heap.size, 5, none⟩ = some (.int .i64 (e.rm)) ∧ w'.cell? ⟨w.heap.size, 6, none⟩ = some (.int .u64 (b)) ∧ w'.cell? ⟨w.heap.size, 7, none⟩ = some (.int .u64 (t)) ∧ w'.cell? ⟨w.heap.size, 8, none⟩ = some (.int .u64 (wd)) ∧ w'.cell? ⟨w.heap.size, 9, none⟩ = some (.bool (false)) ∧ w'.cell? ⟨w.heap.size, 10, none⟩ = some (.int .i64 (0))) (by kernel_rfl) ?_
  refine wpAnyZ_take (i := 0) (v := ?v0z5) rfl (by kernel_rfl) (by kernel_rfl) (by kernel_rfl) (by kernel_rfl) (fun _ _ _ h => h) (Or.inl ⟨by rfl, ?hy0z5⟩) ⟨d0,d1,d2,d3,d4,d5,d6,d7,d8,d9,d10⟩ ?_
  case hy0z5 => intro w hSw; (try dsimp only at hSw); first | (go_simp; done) | (go_simp; with_reducible rfl)
  try simp only [Act.put, List.setIfInBounds_toArray]
  refine wpAnyZ_take (i := 1) (v := ?v1z5) rfl (by kernel_rfl) (by kernel_rfl) (by kernel_rfl) (by kernel_rfl) (fun _ _ _ h => h) (Or.inl ⟨by rfl, ?hy1z5⟩) ⟨d0,d1,d2,d3,d4,d5,d6,d7,d8,d9,d10⟩ ?_
  case hy1z5 => intro w hSw; (try dsimp only at hSw); first | (go_simp; done) | (go_simp; with_reducible rfl)
  try simp only [Act.put]
  refine wpAnyZ_take (i := 2) (v := ?v2z5) rfl (by kernel_rfl) (by kernel_rfl) (by kernel_rfl) (by kernel_rfl) (fun _ _ _ h => h) (Or.inl ⟨by rfl, ?hy2z5⟩) ⟨d0,d1,d2,d3,d4,d5,d6,d7,d8,d9,d10⟩ ?_
  case hy2z5 => intro w hSw; (try dsimp only at hSw); first | (go_simp; done) | (go_simp; with_reducible rfl)
  try simp only [Act.put]
  refine wpAnyZ_take (i := 3) (v := ?v3z5) rfl (by kernel_rfl) (by kernel_rfl) (by kernel_rfl) (by kernel_rfl) (fun _ _ _ h => h) (Or.inl ⟨by rfl, ?hy3z5⟩) ⟨d0,d1,d2,d3,d4,d5,d6,d7,d8,d9,d10⟩ ?_
  case hy3z5 => intro w hSw; (try dsimp only at hSw); first | (go_simp; done) | (go_simp; with_reducible rfl)
  try simp only [Act.put]
  refine wpAnyZ_take (i := 4) (v := ?v4z5) rfl (by kernel_rfl) (by kernel_rfl) (by kernel_rfl) (by kernel_rfl) (fun _ _ _ h => h) (Or.inl ⟨by rfl, ?hy4z5⟩) ⟨d0,d1,d2,d3,d4,d5,d6,d7,d8,d9,d10⟩ ?_
  case hy4z5 => intro w hSw; (try dsimp only at hSw); first | (go_simp; done) | (go_simp; with_reducible rfl)
  try simp only [Act.put]
  refine wpAnyZ_take (i := 5) (v := ?v5z5) rfl (by kernel_rfl) (by kernel_rfl) (by kernel_rfl) (by kernel_rfl) (fun _ _ _ h => h) (Or.inl ⟨by rfl, ?hy5z5⟩) ⟨d0,d1,d2,d3,d4,d5,d6,d7,d8,d9,d10⟩ ?_
  case hy5z5 => intro w hSw; (try dsimp only at hSw); first | (go_simp; done) | (go_simp; with_reducible rfl)
  try simp only [Act.put]
  refine wpAnyZ_take (i := 6) (v := ?v6z5) rfl (by kernel_rfl) (by kernel_rfl) (by kernel_rfl) (by kernel_rfl) (fun _ _ _ h => h) (Or.inl ⟨by rfl, ?hy6z5⟩) ⟨d0,d1,d2,d3,d4,d5,d6,d7,d8,d9,d10⟩ ?_
  case hy6z5 => intro w hSw; (try dsimp only at hSw); first | (go_simp; done) | (go_simp; with_reducible rfl)
  try simp only [Act.put]
  refine wpAnyZ_take (i := 8) (v := ?v8z5) rfl (by kernel_rfl) (by kernel_rfl) (by kernel_rfl) (by kernel_rfl) (fun _ _ _ h => h) (Or.inl ⟨by rfl, ?hy8z5⟩) ⟨d0,d1,d2,d3,d4,d5,d6,d7,d8,d9,d10⟩ ?_
  case hy8z5 => intro w hSw; (try dsimp only at hSw); first | (go_simp; done) | (go_simp; with_reducible rfl)
  try simp only [Act.put]
  refine wpAnyZ_one (i := 7) (by kernel_rfl) rfl (fun K hK => ?_)
  go_simp
  go_at_call 22
  refine (putL_ref e.bt bo _ (HM.out _ hkD) hlen).mono ?_; rintro r w5 ⟨l', rfl, hl', hkc, hown⟩
  have hb5 := hkc.blk hbD
  have hr5 := hkc.blk hrD
  have hk5 := Kept.trans' hkD hkc
  clear hkc
  have x0 := hb5.cell 0
  have x1 := hb5.cell 1
  have x2 := hb5.cell 2
  have x3 := hb5.cell 3
  have x4 := hb5.cell 4
  have x5 := hb5.cell 5
  have x6 := hb5.cell 6
  have x7 := hb5.cell 7
  have x8 := hb5.cell 8
  have x9 := hb5.cell 9
  have x10 := hb5.cell 10
  simp only [List.getElem?_cons_zero, List.getElem?_cons_succ] at x0 x1 x2 x3 x4 x5 x6 x7 x8 x9 x10
  refine hK.out _ _ (fun _ => ⟨x0,x1,x2,x3,x4,x5,x6,x7,x8,x9,x10⟩) ?_
  clear hK K
  try simp only [Act.put, List.setIfInBounds_toArray, List.set_cons_zero, List.set_cons_succ]
  refine wpAnyZ_one (i := 9) (by kernel_rfl) rfl (fun K hK => ?_)
  go_simp
  go_at_call 95
  refine (end8_ref 1 4 e.tp e.bt e.en e.rm b t wd false 0 1 0 _).mono ?_; rintro r w6 ⟨rfl, hkc⟩
  have hl6 := Row.kept hl' hkc
  have hb6 := hkc.blk hb5
  have hr6 := hkc.blk hr5
  have hk6 := Kept.trans' hk5 hkc
  clear hkc
  have g0 := hb6.cell 0
  have g1 := hb6.cell 1
  have g2 := hb6.cell 2
  have g3 := hb6.cell 3
  have g4 := hb6.cell 4
  have g5 := hb6.cell 5
  have g6 := hb6.cell 6
  have g7 := hb6.cell 7
  have g8 := hb6.cell 8
  have g9 := hb6.cell 9
  have g10 := hb6.cell 10
  simp only [List.getElem?_cons_zero, List.getElem?_cons_succ] at g0 g1 g2 g3 g4 g5 g6 g7 g8 g9 g10
  have q0 := hr6.cell 0
  have q1 := hr6.cell 1
  have q2 := hr6.cell 2
  have q3 := hr6.cell 3
  have q4 := hr6.cell 4
  have q5 := hr6.cell 5
  have q6 := hr6.cell 6
  have q7 := hr6.cell 7
  have q8 := hr6.cell 8
  have q9 := hr6.cell 9
  have q10 := hr6.cell 10
  have fq0 := hr6.free 0
  have fq1 := hr6.free 1
  have fq2 := hr6.free 2
  have fq3 := hr6.free 3
  have fq4 := hr6.free 4
  have fq5 := hr6.free 5
  have fq6 := hr6.free 6
  have fq7 := hr6.free 7
  have fq8 := hr6.free 8
  have fq9 := hr6.free 9
  have fq10 := hr6.free 10
  simp only [List.getElem?_cons_zero, List.getElem?_cons_succ] at q0 q1 q2 q3 q4 q5 q6 q7 q8 q9 q10
  refine hK.out _ _ (fun _ => ⟨g0,g1,g2,g3,g4,g5,g6,g7,g8,g9,g10⟩) ?_
  clear hK K
  try simp only [Act.put, List.setIfInBounds_toArray, List.set_cons_zero, List.set_cons_succ]
  refine wpAnyZ_one (i := 10) (by kernel_rfl) rfl (fun K hK => ?_)
  go_simp
  refine hK.out _ _ (fun _ => ⟨g0,g1,g2,g3,g4,g5,g6,g7,g8,g9,g10⟩) ?_
  clear hK K
  try simp only [Act.put, List.setIfInBounds_toArray, List.set_cons_zero, List.set_cons_succ]
  refine wpAnyZ_one (i := 11) (by kernel_rfl) rfl (fun K hK => ?_)
  go_simp
  refine hK.out _ _ (fun h => absurd rfl h) ?_
  refine wpAnyZ_done (by kernel_rfl) ?_ _
  clear hK K
  have hN : w2.drew.heap.size = w.heap.size + 2 := zN
  rw [hN] at hown
  clear b0 b1 b2 b3 b4 b5 b6 b7 b8 b9 b10 d0 d1 d2 d3 d4 d5 d6 d7 d8 d9 d10 x0 x1 x2 x3 x4 x5 x6 x7 x8 x9 x10 g0 g1 g2 g3 g4 g5 g6 g7 g8 g9 g10 q0 q1 q2 q3 q4 q5 q6 q7 q8 q9 q10 fq0 fq1 fq2 fq3 fq4 fq5 fq6 fq7 fq8 fq9 fq10 hb hr hk hbD hrD hkD hb5 hr5 hk5
  have hb := hb6
  have hr := hr6
  have hk := hk6
  clear hb6 hr6 hk6
  have hr9 : Blk (((((((((((w6.setCell ⟨w.heap.size + 1, 0, none⟩ (.int .i64 (1))).setCell ⟨w.heap.size + 1, 1, none⟩ (.int .i64 (0))).setCell ⟨w.heap.size + 1, 2, none⟩ (.int .i64 (0))).setCell ⟨w.heap.size + 1, 3, none⟩ (.int .i64 (0))).setCell ⟨w.heap.size + 1, 4, none⟩ (.int .i64 (0))).setCell ⟨w.heap.size + 1, 5, none⟩ (.int .i64 (0))).setCell ⟨w.heap.size + 1, 6, none⟩ (.int .u64 (0))).setCell ⟨w.heap.size + 1, 7, none⟩ (.int .u64 (0))).setCell ⟨w.heap.size + 1, 8, none⟩ (.int .u64 (0))).setCell ⟨w.heap.size + 1, 9, none⟩ (.bool (false))).setCell ⟨w.heap.size + 1, 10, none⟩ (.int .i64 (1))) (w.heap.size + 1) 49 [.int .i64 (1), .int .i64 (0), .int .i64 (0), .int .i64 (0), .int .i64 (0), .int .i64 (0), .int .u64 (0), .int .u64 (0), .int .u64 (0), .bool (false), .int .i64 (1)] := (((((((((((hr.set' 0 (.int .i64 (1)) rfl).set' 1 (.int .i64 (0)) rfl).set' 2 (.int .i64 (0)) rfl).set' 3 (.int .i64 (0)) rfl).set' 4 (.int .i64 (0)) rfl).set' 5 (.int .i64 (0)) rfl).set' 6 (.int .u64 (0)) rfl).set' 7 (.int .u64 (0)) rfl).set' 8 (.int .u64 (0)) rfl).set' 9 (.bool (false)) rfl).set' 10 (.int .i64 (1)) rfl)
  have hk9 : Kept w (((((((((((w6.setCell ⟨w.heap.size + 1, 0, none⟩ (.int .i64 (1))).setCell ⟨w.heap.size + 1, 1, none⟩ (.int .i64 (0))).setCell ⟨w.heap.size + 1, 2, none⟩ (.int .i64 (0))).setCell ⟨w.heap.size + 1, 3, none⟩ (.int .i64 (0))).setCell ⟨w.heap.size + 1, 4, none⟩ (.int .i64 (0))).setCell ⟨w.heap.size + 1, 5, none⟩ (.int .i64 (0))).setCell ⟨w.heap.size + 1, 6, none⟩ (.int .u64 (0))).setCell ⟨w.heap.size + 1, 7, none⟩ (.int .u64 (0))).setCell ⟨w.heap.size + 1, 8, none⟩ (.int .u64 (0))).setCell ⟨w.heap.size + 1, 9, none⟩ (.bool (false))).setCell ⟨w.heap.size + 1, 10, none⟩ (.int .i64 (1))) := (Below.setCell (Below.setCell (Below.setCell (Below.setCell (Below.setCell (Below.setCell (Below.setCell (Below.setCell (Below.setCell (Below.setCell (Below.setCell hk (p := ⟨w.heap.size + 1, 0, none⟩) (by simp <;> omega) _) (p := ⟨w.heap.size + 1, 1, none⟩) (by simp <;> omega) _) (p := ⟨w.heap.size + 1, 2, none⟩) (by simp <;> omega) _) (p := ⟨w.heap.size + 1, 3, none⟩) (by simp <;> omega) _) (p := ⟨w.heap.size + 1, 4, none⟩) (by simp <;> omega) _) (p := ⟨w.heap.size + 1, 5, none⟩) (by simp <;> omega) _) (p := ⟨w.heap.size + 1, 6, none⟩) (by simp <;> omega) _) (p := ⟨w.heap.size + 1, 7, none⟩) (by simp <;> omega) _) (p := ⟨w.heap.size + 1, 8, none⟩) (by simp <;> omega) _) (p := ⟨w.heap.size + 1, 9, none⟩) (by simp <;> omega) _) (p := ⟨w.heap.size + 1, 10, none⟩) (by simp <;> omega) _)
  have hc9 : Chg (fun q => q = w.heap.size + 1) w6 (((((((((((w6.setCell ⟨w.heap.size + 1, 0, none⟩ (.int .i64 (1))).setCell ⟨w.heap.size + 1, 1, none⟩ (.int .i64 (0))).setCell ⟨w.heap.size + 1, 2, none⟩ (.int .i64 (0))).setCell ⟨w.heap.size + 1, 3, none⟩ (.int .i64 (0))).setCell ⟨w.heap.size + 1, 4, none⟩ (.int .i64 (0))).setCell ⟨w.heap.size + 1, 5, none⟩ (.int .i64 (0))).setCell ⟨w.heap.size + 1, 6, none⟩ (.int .u64 (0))).setCell ⟨w.heap.size + 1, 7, none⟩ (.int .u64 (0))).setCell ⟨w.heap.size + 1, 8, none⟩ (.int .u64 (0))).setCell ⟨w.heap.size + 1, 9, none⟩ (.bool (false))).setCell ⟨w.heap.size + 1, 10, none⟩ (.int .i64 (1))) := ((((((((((((Chg.refl (fun q => q = w.heap.size + 1) w6).setCell ⟨w.heap.size + 1, 0, none⟩ (.int .i64 (1)) (fun _ => rfl)).setCell ⟨w.heap.size + 1, 1, none⟩ (.int .i64 (0)) (fun _ => rfl)).setCell ⟨w.heap.size + 1, 2, none⟩ (.int .i64 (0)) (fun _ => rfl)).setCell ⟨w.heap.size + 1, 3, none⟩ (.int .i64 (0)) (fun _ => rfl)).setCell ⟨w.heap.size + 1, 4, none⟩ (.int .i64 (0)) (fun _ => rfl)).setCell ⟨w.heap.size + 1, 5, none⟩ (.int .i64 (0)) (fun _ => rfl)).setCell ⟨w.heap.size + 1, 6, none⟩ (.int .u64 (0)) (fun _ => rfl)).setCell ⟨w.heap.size + 1, 7, none⟩ (.int .u64 (0)) (fun _ => rfl)).setCell ⟨w.heap.size + 1, 8, none⟩ (.int .u64 (0)) (fun _ => rfl)).setCell ⟨w.heap.size + 1, 9, none⟩ (.bool (false)) (fun _ => rfl)).setCell ⟨w.heap.size + 1, 10, none⟩ (.int .i64 (1)) (fun _ => rfl))
  generalize (((((((((((w6.setCell ⟨w.heap.size + 1, 0, none⟩ (.int .i64 (1))).setCell ⟨w.heap.size + 1, 1, none⟩ (.int .i64 (0))).setCell ⟨w.heap.size + 1, 2, none⟩ (.int .i64 (0))).setCell ⟨w.heap.size + 1, 3, none⟩ (.int .i64 (0))).setCell ⟨w.heap.size + 1, 4, none⟩ (.int .i64 (0))).setCell ⟨w.heap.size + 1, 5, none⟩ (.int .i64 (0))).setCell ⟨w.heap.size + 1, 6, none⟩ (.int .u64 (0))).setCell ⟨w.heap.size + 1, 7, none⟩ (.int .u64 (0))).setCell ⟨w.heap.size + 1, 8, none⟩ (.int .u64 (0))).setCell ⟨w.heap.size + 1, 9, none⟩ (.bool (false))).setCell ⟨w.heap.size + 1, 10, none⟩ (.int .i64 (1))) = w99 at *
  go_wp2_with fail
  exact bodyPost_ret (v := .tuple #[l', .agg ([.int .i64 (1), .int .i64 (0), .int .i64 (0), .int .i64 (0), .int .i64 (0), .int .i64 (0), .int .u64 (0), .int .u64 (0), .int .u64 (0), .bool (false), .int .i64 (1)] : List Value).toArray]) (results_tc (l := [.int .i64 (1), .int .i64 (0), .int .i64 (0), .int .i64 (0), .int .i64 (0), .int .i64 (0), .int .u64 (0), .int .u64 (0), .int .u64 (0), .bool (false), .int .i64 (1)]) Tryz.results75 rfl rfl hr9 _ Tryz.underlying49 rfl (by kernel_rfl)) rfl ⟨_, rfl, (HM.out w (Below.refl _ _)).past hl6 (by simp [mput_len]) (fun q e => by omega) hown hc9, hk9, fun g e => (hown g e).imp id (fun e => by omega)⟩

theorem push8_ref {e : DEnds} {d : DQ} {mem : List Int} {l : Value} (w : World) (hm : MemV w l mem) (hall : ∀ x ∈ mem, U x) (hlen : mem.length ≤ 20000) (he : e.ok) (hu : U d.b ∧ U d.t ∧ U d.wd) (hq : d.push) (hd : d.pc ≠ .done) :
    Calls Tryz.prog 75 #[l, .agg (r8V e d).toArray] w fun r w' => ∃ l', r = .returned (.tuple #[l', .agg (r8V e (dqStep e mem d).2).toArray]) ∧ MemV w' l' (dqStep e mem d).1 ∧ Kept w w' ∧ (∀ g, l'.ownBlock = some g → l' = l ∨ w.heap.size ≤ g) := by
  rcases hq with hp | hp | hp | hp | hp
  · exact absurd hp hd
  · exact st8_bottom w hm hall hlen he hu hp
  · by_cases h0 : aheadI d.b (mget mem e.tp) ≥ 0
    · by_cases hz : aheadI d.b (mget mem e.tp) ≥ max e.rm 1
      · exact st8_top_full w hm hall hlen he hu hp hz
      · exact st8_top_less w hm hall hlen he hu hp hz h0
    · exact st8_top_neg w hm hall hlen he hu hp h0
  · exact st8_entry w hm hall hlen he hu hp
  · exact st8_end w hm hall hlen he hu hp

set_option maxRecDepth 8000 in
set_option maxHeartbeats 1600000 in
theorem step8_ref {e : DEnds} {d : DQ} {mem : List Int} {l : Value} (w : World) (hm : MemV w l mem) (hall : ∀ x ∈ mem, U x) (hlen : mem.length ≤ 20000) (he : e.ok) (hu : U d.b ∧ U d.t ∧ U d.wd) (hq : d.push) (hd : d.pc ≠ .done) :
    Calls Tryz.prog 46 #[l, .agg (r8V e d).toArray] w fun r w' => ∃ l', r = .returned (.tuple #[l', .agg (r8V e (dqStep e mem d).2).toArray]) ∧ MemV w' l' (dqStep e mem d).1 ∧ Kept w w' ∧ (∀ g, l'.ownBlock = some g → l' = l ∨ w.heap.size ≤ g) := by
  obtain ⟨pn, hpn, hv⟩ : ∃ pn : Int, (pn == 0) = false ∧ r8V e d = r8L 1 pn e.tp e.bt e.en e.rm d.b d.t d.wd false 0 := by
    rcases hq with hp | hp | hp | hp | hp
    · exact absurd hp hd
    all_goals (unfold r8V; rw [hp]; exact ⟨_, rfl, rfl⟩)
  have D := fun W (k : Kept w W) => push8_ref (e := e) (d := d) W (hm.kept k) hall hlen he hu hq hd
  rw [hv] at D ⊢
  obtain ⟨mo, mc, hmv⟩ := hm.form
  obtain ⟨ml, hml⟩ : ∃ ml, ml = (mem.map (Value.int .u64)).length := ⟨_, rfl⟩
  rw [← hml] at hmv
  subst hmv
  clear hml
  have HM : Hid (MemV w (.slice mo ml mc) mem) := hm
  obtain ⟨R, hR⟩ : ∃ R, r8V e (dqStep e mem d).2 = R := ⟨_, rfl⟩
  obtain ⟨r0, r1, r2, r3, r4, r5, r6, r7, r8, r9, r10, hRL⟩ : ∃ r0 r1 r2 r3 r4 r5 r6 r7 r8 r9 r10, R = r8L r0 r1 r2 r3 r4 r5 r6 r7 r8 r9 r10 := by
    rw [← hR]; unfold r8V; split <;> exact ⟨_, _, _, _, _, _, _, _, _, _, _, rfl⟩
  rw [hR, hRL] at D ⊢
  have hlm : (dqStep e mem d).1.length = mem.length := dqStep_len e mem d
  generalize (dqStep e mem d).1 = m2 at *
  clear hm hR hRL hv hall
  have hb0 := Blk.new w 49 [.int .i64 (1), .int .i64 (pn), .int .i64 (e.tp), .int .i64 (e.bt), .int .i64 (e.en), .int .i64 (e.rm), .int .u64 (d.b), .int .u64 (d.t), .int .u64 (d.wd), .bool (false), .int .i64 (0)]
  have hk0 : Kept w (w.alloc (.cells ([.int .i64 (1), .int .i64 (pn), .int .i64 (e.tp), .int .i64 (e.bt), .int .i64 (e.en), .int .i64 (e.rm), .int .u64 (d.b), .int .u64 (d.t), .int .u64 (d.wd), .bool (false), .int .i64 (0)] : List Value).toArray 49)) := (Below.refl _ _).alloc (Nat.le_refl _) _
  have z0 : (w.alloc (.cells ([.int .i64 (1), .int .i64 (pn), .int .i64 (e.tp), .int .i64 (e.bt), .int .i64 (e.en), .int .i64 (e.rm), .int .u64 (d.b), .int .u64 (d.t), .int .u64 (d.wd), .bool (false), .int .i64 (0)] : List Value).toArray 49)).heap.size = w.heap.size + 1 := by simp
  go_enter Tryz.func46, Tryz.ntmps46
  go_wp2_with fail
  generalize w.alloc (.cells ([.int .i64 (1), .int .i64 (pn), .int .i64 (e.tp), .int .i64 (e.bt), .int .i64 (e.en), .int .i64 (e.rm), .int .u64 (d.b), .int .u64 (d.t), .int .u64 (d.wd), .bool (false), .int .i64 (0)] : List Value).toArray 49) = w1 at *
  have hr0 := Blk.new w1 49 [.int .i64 0, .int .i64 0, .int .i64 0, .int .i64 0, .int .i64 0, .int .i64 0, .int .u64 0, .int .u64 0, .int .u64 0, .bool false, .int .i64 0]
  rw [z0] at hr0
  have hk1 : Kept w1 (w1.alloc (.cells ([.int .i64 0, .int .i64 0, .int .i64 0, .int .i64 0, .int .i64 0, .int .i64 0, .int .u64 0, .int .u64 0, .int .u64 0, .bool false, .int .i64 0] : List Value).toArray 49)) := (Below.refl _ _).alloc (Nat.le_refl _) _
  have z1 : (w1.alloc (.cells ([.int .i64 0, .int .i64 0, .int .i64 0, .int .i64 0, .int .i64 0, .int .i64 0, .int .u64 0, .int .u64 0, .int .u64 0, .bool false, .int .i64 0] : List Value).toArray 49)).heap.size = w.heap.size + 2 := by simp [z0]
  generalize w1.alloc (.cells ([.int .i64 0, .int .i64 0, .int .i64 0, .int .i64 0, .int .i64 0, .int .i64 0, .int .u64 0, .int .u64 0, .int .u64 0, .bool false, .int .i64 0] : List Value).toArray 49) = w2 at *
  have hb := (hk1.blk hb0)
  have hr := hr0
  have hk : Kept w w2 := (hk0.trans' hk1)
  clear hb0 hr0 hk0 hk1 z0
  have zN : w2.heap.size = w.heap.size + 2 := z1
  clear z1
  have b0 := hb.cell 0
  have b1 := hb.cell 1
  have b2 := hb.cell 2
  have b3 := hb.cell 3
  have b4 := hb.cell 4
  have b5 := hb.cell 5
  have b6 := hb.cell 6
  have b7 := hb.cell 7
  have b8 := hb.cell 8
  have b9 := hb.cell 9
  have b10 := hb.cell 10
  simp only [List.getElem?_cons_zero, List.getElem?_cons_succ] at b0 b1 b2 b3 b4 b5 b6 b7 b8 b9 b10
  go_wp2_with fail
  refine (D w2 hk).mono ?_; rintro r w3 ⟨l', rfl, hl', hkc, hown⟩
  rw [zN] at hown
  clear b0 b1 b2 b3 b4 b5 b6 b7 b8 b9 b10
  replace hb := hkc.blk hb
  replace hr := hkc.blk hr
  replace hk := Kept.trans' hk hkc
  clear hkc
  have q0 := hr.cell 0
  have q1 := hr.cell 1
  have q2 := hr.cell 2
  have q3 := hr.cell 3
  have q4 := hr.cell 4
  have q5 := hr.cell 5
  have q6 := hr.cell 6
  have q7 := hr.cell 7
  have q8 := hr.cell 8
  have q9 := hr.cell 9
  have q10 := hr.cell 10
  have fq0 := hr.free 0
  have fq1 := hr.free 1
  have fq2 := hr.free 2
  have fq3 := hr.free 3
  have fq4 := hr.free 4
  have fq5 := hr.free 5
  have fq6 := hr.free 6
  have fq7 := hr.free 7
  have fq8 := hr.free 8
  have fq9 := hr.free 9
  have fq10 := hr.free 10
  simp only [List.getElem?_cons_zero, List.getElem?_cons_succ] at q0 q1 q2 q3 q4 q5 q6 q7 q8 q9 q10
  go_wp2_with fail
  have hr9 : Blk (((((((((((w3.setCell ⟨w.heap.size + 1, 0, none⟩ (.int .i64 (r0))).setCell ⟨w.heap.size + 1, 1, none⟩ (.int .i64 (r1))).setCell ⟨w.heap.size + 1, 2, none⟩ (.int .i64 (r2))).setCell ⟨w.heap.size + 1, 3, none⟩ (.int .i64 (r3))).setCell ⟨w.heap.size + 1, 4, none⟩ (.int .i64 (r4))).setCell ⟨w.heap.size + 1, 5, none⟩ (.int .i64 (r5))).setCell ⟨w.heap.size + 1, 6, none⟩ (.int .u64 (r6))).setCell ⟨w.heap.size + 1, 7, none⟩ (.int .u64 (r7))).setCell ⟨w.heap.size + 1, 8, none⟩ (.int .u64 (r8))).setCell ⟨w.heap.size + 1, 9, none⟩ (.bool (r9))).setCell ⟨w.heap.size + 1, 10, none⟩ (.int .i64 (r10))) (w.heap.size + 1) 49 [.int .i64 (r0), .int .i64 (r1), .int .i64 (r2), .int .i64 (r3), .int .i64 (r4), .int .i64 (r5), .int .u64 (r6), .int .u64 (r7), .int .u64 (r8), .bool (r9), .int .i64 (r10)] := (((((((((((hr.set' 0 (.int .i64 (r0)) rfl).set' 1 (.int .i64 (r1)) rfl).set' 2 (.int .i64 (r2)) rfl).set' 3 (.int .i64 (r3)) rfl).set' 4 (.int .i64 (r4)) rfl).set' 5 (.int .i64 (r5)) rfl).set' 6 (.int .u64 (r6)) rfl).set' 7 (.int .u64 (r7)) rfl).set' 8 (.int .u64 (r8)) rfl).set' 9 (.bool (r9)) rfl).set' 10 (.int .i64 (r10)) rfl)
  have hk9 : Kept w (((((((((((w3.setCell ⟨w.heap.size + 1, 0, none⟩ (.int .i64 (r0))).setCell ⟨w.heap.size + 1, 1, none⟩ (.int .i64 (r1))).setCell ⟨w.heap.size + 1, 2, none⟩ (.int .i64 (r2))).setCell ⟨w.heap.size + 1, 3, none⟩ (.int .i64 (r3))).setCell ⟨w.heap.size + 1, 4, none⟩ (.int .i64 (r4))).setCell ⟨w.heap.size + 1, 5, none⟩ (.int .i64 (r5))).setCell ⟨w.heap.size + 1, 6, none⟩ (.int .u64 (r6))).setCell ⟨w.heap.size + 1, 7, none⟩ (.int .u64 (r7))).setCell ⟨w.heap.size + 1, 8, none⟩ (.int .u64 (r8))).setCell ⟨w.heap.size + 1, 9, none⟩ (.bool (r9))).setCell ⟨w.heap.size + 1, 10, none⟩ (.int .i64 (r10))) := (Below.setCell (Below.setCell (Below.setCell (Below.setCell (Below.setCell (Below.setCell (Below.setCell (Below.setCell (Below.setCell (Below.setCell (Below.setCell hk (p := ⟨w.heap.size + 1, 0, none⟩) (by simp <;> omega) _) (p := ⟨w.heap.size + 1, 1, none⟩) (by simp <;> omega) _) (p := ⟨w.heap.size + 1, 2, none⟩) (by simp <;> omega) _) (p := ⟨w.heap.size + 1, 3, none⟩) (by simp <;> omega) _) (p := ⟨w.heap.size + 1, 4, none⟩) (by simp <;> omega) _) (p := ⟨w.heap.size + 1, 5, none⟩) (by simp <;> omega) _) (p := ⟨w.heap.size + 1, 6, none⟩) (by simp <;> omega) _) (p := ⟨w.heap.size + 1, 7, none⟩) (by simp <;> omega) _) (p := ⟨w.heap.size + 1, 8, none⟩) (by simp <;> omega) _) (p := ⟨w.heap.size + 1, 9, none⟩) (by simp <;> omega) _) (p := ⟨w.heap.size + 1, 10, none⟩) (by simp <;> omega) _)
  have hc9 : Chg (fun q => q = w.heap.size + 1) w3 (((((((((((w3.setCell ⟨w.heap.size + 1, 0, none⟩ (.int .i64 (r0))).setCell ⟨w.heap.size + 1, 1, none⟩ (.int .i64 (r1))).setCell ⟨w.heap.size + 1, 2, none⟩ (.int .i64 (r2))).setCell ⟨w.heap.size + 1, 3, none⟩ (.int .i64 (r3))).setCell ⟨w.heap.size + 1, 4, none⟩ (.int .i64 (r4))).setCell ⟨w.heap.size + 1, 5, none⟩ (.int .i64 (r5))).setCell ⟨w.heap.size + 1, 6, none⟩ (.int .u64 (r6))).setCell ⟨w.heap.size + 1, 7, none⟩ (.int .u64 (r7))).setCell ⟨w.heap.size + 1, 8, none⟩ (.int .u64 (r8))).setCell ⟨w.heap.size + 1, 9, none⟩ (.bool (r9))).setCell ⟨w.heap.size + 1, 10, none⟩ (.int .i64 (r10))) := ((((((((((((Chg.refl (fun q => q = w.heap.size + 1) w3).setCell ⟨w.heap.size + 1, 0, none⟩ (.int .i64 (r0)) (fun _ => rfl)).setCell ⟨w.heap.size + 1, 1, none⟩ (.int .i64 (r1)) (fun _ => rfl)).setCell ⟨w.heap.size + 1, 2, none⟩ (.int .i64 (r2)) (fun _ => rfl)).setCell ⟨w.heap.size + 1, 3, none⟩ (.int .i64 (r3)) (fun _ => rfl)).setCell ⟨w.heap.size + 1, 4, none⟩ (.int .i64 (r4)) (fun _ => rfl)).setCell ⟨w.heap.size + 1, 5, none⟩ (.int .i64 (r5)) (fun _ => rfl)).setCell ⟨w.heap.size + 1, 6, none⟩ (.int .u64 (r6)) (fun _ => rfl)).setCell ⟨w.heap.size + 1, 7, none⟩ (.int .u64 (r7)) (fun _ => rfl)).setCell ⟨w.heap.size + 1, 8, none⟩ (.int .u64 (r8)) (fun _ => rfl)).setCell ⟨w.heap.size + 1, 9, none⟩ (.bool (r9)) (fun _ => rfl)).setCell ⟨w.heap.size + 1, 10, none⟩ (.int .i64 (r10)) (fun _ => rfl))
  generalize (((((((((((w3.setCell ⟨w.heap.size + 1, 0, none⟩ (.int .i64 (r0))).setCell ⟨w.heap.size + 1, 1, none⟩ (.int .i64 (r1))).setCell ⟨w.heap.size + 1, 2, none⟩ (.int .i64 (r2))).setCell ⟨w.heap.size + 1, 3, none⟩ (.int .i64 (r3))).setCell ⟨w.heap.size + 1, 4, none⟩ (.int .i64 (r4))).setCell ⟨w.heap.size + 1, 5, none⟩ (.int .i64 (r5))).setCell ⟨w.heap.size + 1, 6, none⟩ (.int .u64 (r6))).setCell ⟨w.heap.size + 1, 7, none⟩ (.int .u64 (r7))).setCell ⟨w.heap.size + 1, 8, none⟩ (.int .u64 (r8))).setCell ⟨w.heap.size + 1, 9, none⟩ (.bool (r9))).setCell ⟨w.heap.size + 1, 10, none⟩ (.int .i64 (r10))) = w99 at *
  clear q0 q1 q2 q3 q4 q5 q6 q7 q8 q9 q10 fq0 fq1 fq2 fq3 fq4 fq5 fq6 fq7 fq8 fq9 fq10
  exact bodyPost_ret (v := .tuple #[l', .agg ([.int .i64 (r0), .int .i64 (r1), .int .i64 (r2), .int .i64 (r3), .int .i64 (r4), .int .i64 (r5), .int .u64 (r6), .int .u64 (r7), .int .u64 (r8), .bool (r9), .int .i64 (r10)] : List Value).toArray]) (results_tc (l := [.int .i64 (r0), .int .i64 (r1), .int .i64 (r2), .int .i64 (r3), .int .i64 (r4), .int .i64 (r5), .int .u64 (r6), .int .u64 (r7), .int .u64 (r8), .bool (r9), .int .i64 (r10)]) Tryz.results46 rfl rfl hr9 _ Tryz.underlying49 rfl (by kernel_rfl)) rfl ⟨_, rfl, HM.out.past hl' (by simp [hlm]) (fun q e => by omega) hown hc9, hk9, fun g e => (hown g e).imp id (fun e => by omega)⟩

set_option maxRecDepth 8000 in
theorem push8_new (e : DEnds) (x : Int) (w : World) :
    Calls Tryz.prog 45 #[.agg #[.int .i64 e.tp, .int .i64 e.bt, .int .i64 e.en, .int .i64 e.rm], .int .u64 x] w fun r w' => r = .returned (.agg (r8V e ⟨.pushBottom, 0, 0, x, 0, false⟩).toArray) ∧ Kept w w' := by
  simp only [r8V]
  have hb0 := Blk.new w 47 [.int .i64 (e.tp), .int .i64 (e.bt), .int .i64 (e.en), .int .i64 (e.rm)]
  have hk0 : Kept w (w.alloc (.cells ([.int .i64 (e.tp), .int .i64 (e.bt), .int .i64 (e.en), .int .i64 (e.rm)] : List Value).toArray 47)) := (Below.refl _ _).alloc (Nat.le_refl _) _
  have z0 : (w.alloc (.cells ([.int .i64 (e.tp), .int .i64 (e.bt), .int .i64 (e.en), .int .i64 (e.rm)] : List Value).toArray 47)).heap.size = w.heap.size + 1 := by simp
  go_enter Tryz.func45, Tryz.ntmps45
  go_wp2_with fail
  generalize w.alloc (.cells ([.int .i64 (e.tp), .int .i64 (e.bt), .int .i64 (e.en), .int .i64 (e.rm)] : List Value).toArray 47) = w1 at *
  have hb := hb0
  have hk : Kept w w1 := hk0
  clear hb0 hk0 
  have zN : w1.heap.size = w.heap.size + 1 := z0
  clear z0
  have hr9 := Blk.new w1 49 [.int .i64 (1), .int .i64 (1), .int .i64 (e.tp), .int .i64 (e.bt), .int .i64 (e.en), .int .i64 (e.rm), .int .u64 (0), .int .u64 (0), .int .u64 (x), .bool (false), .int .i64 (0)]
  rw [zN] at hr9
  have hk9 : Kept w (w1.alloc (.cells ([.int .i64 (1), .int .i64 (1), .int .i64 (e.tp), .int .i64 (e.bt), .int .i64 (e.en), .int .i64 (e.rm), .int .u64 (0), .int .u64 (0), .int .u64 (x), .bool (false), .int .i64 (0)] : List Value).toArray 49)) := hk.trans' ((Below.refl _ _).alloc (Nat.le_refl _) _)
  generalize w1.alloc (.cells ([.int .i64 (1), .int .i64 (1), .int .i64 (e.tp), .int .i64 (e.bt), .int .i64 (e.en), .int .i64 (e.rm), .int .u64 (0), .int .u64 (0), .int .u64 (x), .bool (false), .int .i64 (0)] : List Value).toArray 49) = w99 at *
  exact bodyPost_ret (v := .agg ([.int .i64 (1), .int .i64 (1), .int .i64 (e.tp), .int .i64 (e.bt), .int .i64 (e.en), .int .i64 (e.rm), .int .u64 (0), .int .u64 (0), .int .u64 (x), .bool (false), .int .i64 (0)] : List Value).toArray) (results_c (l := [.int .i64 (1), .int .i64 (1), .int .i64 (e.tp), .int .i64 (e.bt), .int .i64 (e.en), .int .i64 (e.rm), .int .u64 (0), .int .u64 (0), .int .u64 (x), .bool (false), .int .i64 (0)]) Tryz.results45 rfl hr9 _ Tryz.underlying49 rfl (by kernel_rfl)) rfl ⟨rfl, hk9⟩

end Go.Proofs.YtfbcadknimfhjaaGreat

/- A marker's task that is put somewhere: the deque is full: walked. -/
import Derived.Test.YtmghijndjdbdfaaAdd4
namespace Go.Proofs.Ytmghijndjdbdfaa
open Go.RowKit

set_option maxRecDepth 8000 in
set_option maxHeartbeats 1600000 in
theorem own_full {a b q1 q2 bm bs bl B : Nat} {c : Cfg} {x : Int} {pp : Value} {e : DEnds} {d : DQ} {mem : List Int} {n : Int} (w : World) (hm : MapAt w B bm c) (hB : B ≤ w.heap.size) (hBb : B ≤ b) (hBa : B ≤ a) (hBs : B ≤ bs) (hBl : B ≤ bl) (hx : U x) (hA : Blk w a 66 (amL bm x (.pointer (some ⟨b, 0, none⟩)) pp false ((APc.own).val a))) (hd : DqAt w b q1 q2 e d) (hs : StoreAt w bs bl mem n)
    (h1 : b ≠ bs) (h2 : b ≠ bl) (h3 : a ≠ b) (h4 : a ≠ bs) (h5 : a ≠ bl) (hp : d.pc.fin = false) (hf : (dqStep e mem d).2.pc = .done) (ho : (dqStep e mem d).2.out = 2) :
    Calls Try.prog 39 #[.pointer (some ⟨a, 0, none⟩), .pointer (some ⟨bs, 0, none⟩)] w fun r w' => r = .returned (.tuple #[]) ∧ ∃ pb pbi pgt, Blk w' a 66 (amL bm x (.pointer (some ⟨b, 0, none⟩)) (.pointer (some ⟨pb, 0, none⟩)) true ((APc.pool).val a)) ∧
      PmAt w' pb pbi pgt bm bs bl ⟨.spare, [x], 0, 0, ⟨.popHead, 5, 0, 0, 0⟩⟩ ∧ w.heap.size ≤ pb ∧ w.heap.size ≤ pbi ∧ w.heap.size ≤ pgt ∧ pgt < w'.heap.size ∧ StoreAt w' bs bl (dqStep e mem d).1 (cnt n) ∧ Chg (AmB a b bs bl) w w' := by
  have D := dstep_any w hd hs h1 h2 hp
  rw [show (dqStep e mem d).2.pc.fin = true from by rw [hf]; rfl] at D
  generalize dqStep e mem d = rr at *
  have hob : (rr.2.out == 2) = true := by simpa using ho
  have HF : Hid (rr.2.pc = .done) := hf
  have HO : Hid (rr.2.out = 2) := ho
  have g2 := hA.cell 2
  simp only [List.getElem?_cons_zero, List.getElem?_cons_succ] at g2
  clear hf ho
  go_enter Try.func39, Try.ntmps39
  go_wp2_with fail
  refine D.mono ?_; rintro r w2 ⟨rfl, hd2, hs2, hc2⟩
  have hA2 := hc2.blk hA (fun e => by rcases e with e | e | e; exact h3 e; exact h4 e; exact h5 e)
  have hm2 : MapAt w2 B bm c := hm.below (hc2.toBelow hB (fun i hi e => by rcases e with e | e | e <;> omega)) (Nat.le_refl _)
  have f5 := hA2.free 5
  have g5 := hA2.cell 5
  have q2' := hA2.cell 2
  simp only [List.getElem?_cons_zero, List.getElem?_cons_succ] at g5 q2'
  go_wp2_with fail
  have hcb : Chg (fun k => k = a) w2 (w2.setCell ⟨a, 5, none⟩ .nilFunc) := (Chg.refl (fun k => k = a) w2).setCell ⟨a, 5, none⟩ _ (fun _ => rfl)
  have hA3 := hA2.set' 5 .nilFunc (l' := amL bm x (.pointer (some ⟨b, 0, none⟩)) pp false .nilFunc) rfl
  have hd3 := hd2.chgB hcb (by show ¬ b = a; omega) (by rw [HF.out]; rfl)
  have hs3 := hs2.chg hcb (by show ¬ bs = a; omega) (by show ¬ bl = a; omega)
  have hm3 : MapAt (w2.setCell ⟨a, 5, none⟩ .nilFunc) B bm c := hm2.below (hcb.toBelow (Nat.le_trans hB hc2.size) (fun i hi e => by omega)) (Nat.le_refl _)
  have hc3 := (hc2.mono (T := AmB a b bs bl) (fun _ _ e => .inr e)).trans (hcb.mono (fun _ _ e => .inl e))
  generalize w2.setCell ⟨a, 5, none⟩ .nilFunc = w3 at *
  clear f5 g5 q2'
  have q2' := hA3.cell 2
  simp only [List.getElem?_cons_zero, List.getElem?_cons_succ] at q2'
  go_wp2_with fail
  refine (dresult_any w3 hd3 HF.out).mono ?_; rintro r w4 ⟨rfl, hk4⟩
  rw [HO.out]
  have hA4 := hk4.blk hA3
  have hs4 := hs3.kept hk4
  have hm4 := hm3.kept hk4 (Nat.le_trans hB hc3.size)
  have hc4 : Chg (AmB a b bs bl) w w4 := hc3.trans (Chg.ofBelow hk4)
  have f4 := hA4.free 4
  have g4 := hA4.cell 4
  simp only [List.getElem?_cons_zero, List.getElem?_cons_succ] at g4
  go_wp2_with fail
  have hcd : Chg (fun k => k = a) w4 (w4.setCell ⟨a, 4, none⟩ (.bool true)) := (Chg.refl (fun k => k = a) w4).setCell ⟨a, 4, none⟩ _ (fun _ => rfl)
  have hA5 := hA4.set' 4 (.bool true) (l' := amL bm x (.pointer (some ⟨b, 0, none⟩)) pp true .nilFunc) rfl
  have hs5 := hs4.chg hcd (by show ¬ bs = a; omega) (by show ¬ bl = a; omega)
  have hm5 : MapAt (w4.setCell ⟨a, 4, none⟩ (.bool true)) B bm c := hm4.below (hcd.toBelow (Nat.le_trans hB hc4.size) (fun i hi e => by omega)) (Nat.le_refl _)
  have hc5 : Chg (AmB a b bs bl) w (w4.setCell ⟨a, 4, none⟩ (.bool true)) := hc4.trans (hcd.mono (fun _ _ e => .inl e))
  generalize w4.setCell ⟨a, 4, none⟩ (.bool true) = w5 at *
  clear f4 g4
  have k0 := hA5.cell 0
  have k1 := hA5.cell 1
  have hAa : Blk (w5.drew.alloc (.cells #[.int .u64 x] 25)) a _ _ := hA5.drew.alloc _
  have l0 := hAa.cell 0
  have l1 := hAa.cell 1
  simp only [List.getElem?_cons_zero, List.getElem?_cons_succ] at k0 k1 l0 l1
  have hka : Kept w5 (w5.drew.alloc (.cells #[.int .u64 x] 25)) := ((Below.refl _ _).drew).alloc (Nat.le_refl _) _
  have hbx : Blk (w5.drew.alloc (.cells #[.int .u64 x] 25)) w5.heap.size 25 [.int .u64 x] := Blk.new w5.drew _ _
  have hcx : ∀ i u, (([x] : List Int).map (Value.int .u64))[i]? = some u → (w5.drew.alloc (.cells #[.int .u64 x] 25)).cell? ((⟨w5.heap.size, 0, none⟩ : Addr).add i) = some u := fun i u hu => by
    rw [show (⟨w5.heap.size, 0, none⟩ : Addr).add i = ⟨w5.heap.size, i, none⟩ from by unfold Addr.add; split <;> simp_all, hbx.cell i]; exact hu
  have P := packPut_any (ts := [x]) (cap := 1) (ad := ⟨w5.heap.size, 0, none⟩) (w5.drew.alloc (.cells #[.int .u64 x] 25)) (hs5.kept hka) (hm5.kept hka (Nat.le_trans hB hc5.size)) (by simp) hcx hbx.lt (by intro y hy; simp at hy; subst hy; exact hx) (by simp) (by simp)
  clear hcx
  go_region_held3 (fun w' => w'.cell? ⟨a, 0, none⟩ = some (.pointer (some ⟨bm, 0, none⟩)) ∧ w'.cell? ⟨a, 1, none⟩ = some (.int .u64 x))
    (first | exact ⟨k0, k1⟩ | exact ⟨l0, l1⟩ | exact ⟨m0, m1⟩ | exact ⟨keepCell m0 (by simp), keepCell m1 (by simp)⟩)
    (first
     | (go_at_call 63; refine P.mono ?_; rintro r w6 ⟨pb, pbi, pgt, rfl, hp6, z1, z2, z3, z4, hk6⟩
        have hA6 := hk6.blk hAa
        have m0 := hA6.cell 0
        have m1 := hA6.cell 1
        have m3 := hA6.cell 3
        have fm3 := hA6.free 3
        have m5 := hA6.cell 5
        have fm5 := hA6.free 5
        simp only [List.getElem?_cons_zero, List.getElem?_cons_succ] at m0 m1 m3 m5))
  all_goals go_wp2_with fail
  all_goals go_end0
  all_goals
    have z5 := hc5.size
    have zl := hA.lt
    have zs := hs.lt
    have za := hka.size
    have hce : Chg (fun k => k = a) w6 ((w6.setCell ⟨a, 3, none⟩ (.pointer (some ⟨pb, 0, none⟩))).setCell ⟨a, 5, none⟩ ((APc.pool).val a)) := ((Chg.refl (fun k => k = a) w6).setCell ⟨a, 3, none⟩ _ (fun _ => rfl)).setCell ⟨a, 5, none⟩ _ (fun _ => rfl)
    have hc6 : Chg (AmB a b bs bl) w w6 := hc5.trans ((Chg.ofBelow hka).trans (Chg.ofBelow hk6))
    have hs6 := (hs5.kept hka).kept hk6
    refine ⟨rfl, pb, pbi, pgt, (hA6.set' 3 _ rfl).set' 5 _ rfl, hp6.chg hce (by show ¬ pb = a; omega) (by show ¬ pbi = a; omega) (by show ¬ pgt = a; omega), by omega, by omega, by omega, ?_, hs6.chg hce (by show ¬ bs = a; omega) (by show ¬ bl = a; omega), hc6.trans (hce.mono (fun _ _ e => .inl e))⟩
    exact Nat.lt_of_lt_of_le z4 hce.size

end Go.Proofs.Ytmghijndjdbdfaa

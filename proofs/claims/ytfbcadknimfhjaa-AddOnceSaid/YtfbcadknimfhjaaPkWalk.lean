/- The things of a stack: walked. -/
import Derived.Test.YtfbcadknimfhjaaPkPackW
import Derived.ScopeJumps
namespace Go.Proofs.Ytfbcadknimfhjaa
open Go.RowKit

theorem rowU_cell {w : World} {v : Value} {mem : List Int} (hr : Row w v (mem.map (Value.int .u64))) (hp : 0 < mem.length) : ∃ g cap, v = .slice (some ⟨g, 0, none⟩) mem.length cap ∧ g < w.heap.size ∧ ∀ i, i < mem.length → w.cell? ⟨g, i, none⟩ = some (.int .u64 (mget mem i)) := by
  obtain ⟨ao, cap, rfl, hm, hc⟩ := hr.ex
  obtain ⟨g, rfl, hg, _⟩ := hc 0 (.int .u64 (mem[0]'hp)) (by simp [List.getElem?_eq_getElem hp])
  refine ⟨g, cap, by simp, hg, fun i hi => ?_⟩
  obtain ⟨g', he, _, h⟩ := hc i (.int .u64 (mget mem i)) (by
    unfold mget; rw [if_pos (by omega), List.getElem?_map, List.getElem?_eq_getElem hi]; simp [List.getElem?_eq_getElem hi])
  simp at he; subst he; exact h

theorem walk_step {lf : Int → Int} {mem : List Int} {n most : Nat} {p : Int} (h : n < most) (hc : 0 ≤ p ∧ p < mem.length ∧ loI (mget mem p) ≠ 0) :
    walkL lf mem (most - n) p = loI (mget mem p) :: walkL lf mem (most - (n + 1)) (lf (loI (mget mem p))) := by
  obtain ⟨k, hk⟩ : ∃ k, most - n = k + 1 := ⟨most - n - 1, by omega⟩
  rw [hk, show most - (n + 1) = k from by omega, walkL, if_pos hc]

theorem walk_stop {lf : Int → Int} {mem : List Int} {n most : Nat} {p : Int} (h : ¬ (n < most ∧ 0 ≤ p ∧ p < mem.length ∧ loI (mget mem p) ≠ 0)) : walkL lf mem (most - n) p = [] := by
  cases hk : most - n with
  | zero => rfl
  | succ k => rw [walkL, if_neg]; intro hc; exact h ⟨by omega, hc⟩

theorem own_slice {w : World} {base : Nat} {e : TypeId} {v : Value} {n : Nat} {xs : List Value} (h : w.ownsRow base e 1 v n xs) : ∃ ao cap, v = .slice ao n cap := by
  rcases h.2 with ⟨rfl, rfl⟩ | ⟨g, cap, cur, rfl, _⟩
  · exact ⟨none, 0, rfl⟩
  · exact ⟨_, _, rfl⟩

theorem ownsRow_chg {S : Nat → Prop} {w w' : World} {base : Nat} {e : TypeId} {size : Nat} {v : Value} {n : Nat} {xs : List Value} (h : w.ownsRow base e size v n xs) (k : Chg S w w') (hS : ∀ g, v.ownBlock = some g → ¬ S g) : w'.ownsRow base e size v n xs := by
  refine ⟨h.1, ?_⟩
  rcases h.2 with h0 | ⟨g, cap, cur, rfl, hb, hh, hr⟩
  · exact .inl h0
  · exact .inr ⟨g, cap, cur, rfl, hb, by rw [k.block g (lt_of_block hh) (hS g rfl)]; exact hh, hr⟩

def lenOf : Value → Nat
  | .slice _ n _ => n
  | _ => 0

set_option maxRecDepth 8000 in
set_option maxHeartbeats 1600000 in
theorem walk_any {B bm : Nat} {c : Cfg} {mem : List Int} {v : Value} {head : Int} {most : Nat} (w : World) (hg : Good c) (hm : MapAt w B bm c) (hB : B ≤ w.heap.size) (hr : Row w v (mem.map (Value.int .u64))) (hp : 0 < mem.length) (hle : mem.length ≤ 20000) (hall : ∀ x ∈ mem, U x) (hmost : most ≤ 4000) :
    Calls Try.prog 39 #[v, .int .i64 head, .func (.func 27) #[.pointer (some ⟨bm, 0, none⟩)] #[], .int .i64 most] w fun e w' => ∃ v', e = .returned v' ∧ w'.ownsRow w.heap.size 3 1 v' (walkL (lnk c) mem most head).length ((walkL (lnk c) mem most head).map (Value.int .i64)) ∧ Kept w w' := by
  obtain ⟨i0, hi, hz0, hz1, hz2⟩ := info_parts info_int
  obtain ⟨g, cap, rfl, hgl, hcell⟩ := rowU_cell hr hp
  have hlen0 : (0 : Int) ≤ mem.length := by omega
  go_enter Try.func39, Try.ntmps39
  go_wp2_with fail
  refine wp_scope_jumps 0 (fun a' w' => ∃ (vo : Value) (place : Int) (xs : List Int) (u11 u12 u13 u14 u15 u16 u17 u18 u19 u20 u21 u22 u23 u24 u25 u26 u27 u28 u29 u30 u31 u32 u33 u34 u35 u36 u37 u38 u39 u40 u41 : Value), a' = { tmps := #[.slice (some ⟨g, 0, none⟩) mem.length cap, .int .i64 head, .func (.func 27) #[.pointer (some ⟨bm, 0, none⟩)] #[], .int .i64 most, undef, undef, undef, undef, .slice none 0 0, vo, .int .i64 place, u11, u12, u13, u14, u15, u16, u17, u18, u19, u20, u21, u22, u23, u24, u25, u26, u27, u28, u29, u30, u31, u32, u33, u34, u35, u36, u37, u38, u39, u40, u41, undef], defers := [] } ∧
      w'.ownsRow w.heap.size 3 1 vo xs.length (xs.map (Value.int .i64)) ∧ Kept w w' ∧ xs.length ≤ most ∧ xs ++ walkL (lnk c) mem (most - xs.length) place = walkL (lnk c) mem most head) (fun a' _ => most - lenOf (a'.tmps.getD 9 undef)) rfl ?_ ?_
  · have own : w.ownsRow w.heap.size 3 1 (.slice none 0 0) 0 [] := World.ownsRow_nil _ _ _ _
    have hk : Kept w w := Below.refl _ _
    have hm0 : (0 : Int) < most ∨ ¬ (0 : Int) < most := by omega

    by_cases hin : (0 ≤ head ∧ head < mem.length) ∧ 0 < most ∧ loI (mget mem head) ≠ 0
    · obtain ⟨⟨hp0, hp1⟩, hlt, hne⟩ := hin
      have HW : Hid (walkL (lnk c) mem (most - 0) head = loI (mget mem head) :: walkL (lnk c) mem (most - (0 + 1)) (lnk c (loI (mget mem head)))) := walk_step hlt ⟨hp0, hp1, hne⟩
      have hci := (Below.cell hk hgl).trans (hcell (head).toNat (by omega))
      rw [show (((head).toNat : Nat) : Int) = head from by omega] at hci
      clear hcell
      have hU := mget_all hall head
      have hlo := loI_range (mget mem head)
      obtain ⟨hlo0, hlo1⟩ := hlo
      have x1 := wrap_u32_lo (mget mem head)
      have x2 := wrap_i64_u32 hlo0 hlo1
      have hneb : (loI (mget mem head) == 0) = false := by simpa using hne
      have hlt' : (0 : Int) < most := by omega
      have HA : Hid ((loI (mget mem head)) = (loI (mget mem head))) := rfl
      generalize loI (mget mem head) = r at *
      clear hU hne hlt
      go_wp2_with fail
      go_step3
      go_wp2_with (at_builtin; refine wpList_append_lies _ rfl _ _ 36 rfl w.heap.size 3 i0 (.int .i64 0) 1 8 Try.underlying36 hi hz0 hz1 hz2 rfl (by decide) _ _ _ rfl (own.alloc _) ⟨w.heap.size, 0, none⟩ 1 1 [.int .i64 r] rfl rfl ?a1 ?a2 (by omega) ?a3 ?a4 ?a5 _ rfl ?_)
      all_goals first
        | (intro j u hj; match j, hj with | 0, hj => (simp at hj; subst hj; simp [Addr.add]; done))
        | (intro u hu; simp at hu; subst hu; rfl)
        | rfl
        | (unfold maxLen; omega)
        | omega
        | (simp; done)
        | (have := hk.size; simp; omega)
        | (have := hk.size; omega)
        | skip
      intro gb cp w2 own2 hgrow _ _
      have hk2 : Kept w w2 := (hk.alloc hk.size _).grown hgrow (by have := hk.size; first | (simp; done) | (simp; omega)) (fun q hq => by have := (ownsRow_base own q hq).1; omega)
      have hm2 := hm.kept hk2 hB
      clear hgrow
      go_wp2_with fail
      refine (mLink_any r w2 hm2 hg).mono ?_; rintro e w3 ⟨rfl, rfl⟩
      go_wp2_with fail
      go_step3
      simp only [Exit.then]
      refine ⟨rfl, _, _, [r], _, _, _, _, _, _, _, _, _, _, _, _, _, _, _, _, _, _, _, _, _, _, _, _, _, _, _, _, _, _, _, rfl, by simpa using own2, hk2, by simp; omega, ?_⟩
      have := HW.out
      simp at this
      simpa using this.symm

    · skip
      · have HWs : Hid (walkL (lnk c) mem (most - 0) head = []) := walk_stop (fun h => hin ⟨⟨h.2.1, h.2.2.1⟩, h.1, h.2.2.2⟩)
        have hcx : 0 ≤ head → head < mem.length → w.cell? ⟨g, (head).toNat, none⟩ = some (.int .u64 (mget mem head)) := fun h1 h2 => by
          have := hcell (head).toNat (by omega)
          rw [show (((head).toNat : Nat) : Int) = head from by omega] at this
          exact this
        replace hcx : Hid _ := hcx
        replace hin : Hid _ := hin
        clear hcell
        by_cases k1 : 0 ≤ head
        · by_cases k2 : head < mem.length
          · by_cases k3 : (0 : Int) < most
            · have hci := (Below.cell hk hgl).trans (hcx.out k1 k2)
              have hz : loI (mget mem head) = 0 := by
                have := hin.out
                by_cases hz : loI (mget mem head) = 0
                · exact hz
                · exact absurd ⟨⟨k1, k2⟩, by omega, hz⟩ this
              have x1 := wrap_u32_lo (mget mem head)
              rw [hz] at x1
              have hU := mget_all hall head
              clear hz
              (go_wp2_with fail; go_step3); go_wp2_with fail
              (try simp only [Exit.jump]); go_ret; exact ⟨_, rfl, by have e := HWs.out; simp at e; rw [e]; exact own, hk⟩
            · (go_wp2_with fail; go_step3); go_wp2_with fail
              (try simp only [Exit.jump]); go_ret; exact ⟨_, rfl, by have e := HWs.out; simp at e; rw [e]; exact own, hk⟩
          · (go_wp2_with fail; go_step3); go_wp2_with fail
            (try simp only [Exit.jump]); go_ret; exact ⟨_, rfl, by have e := HWs.out; simp at e; rw [e]; exact own, hk⟩
        · (go_wp2_with fail; go_step3); go_wp2_with fail
          (try simp only [Exit.jump]); go_ret; exact ⟨_, rfl, by have e := HWs.out; simp at e; rw [e]; exact own, hk⟩

  · rintro a' wr ⟨vo, place, xs, u11, u12, u13, u14, u15, u16, u17, u18, u19, u20, u21, u22, u23, u24, u25, u26, u27, u28, u29, u30, u31, u32, u33, u34, u35, u36, u37, u38, u39, u40, u41, rfl, own, hk, hxl, hx⟩
    have HX : Hid _ := hx
    clear hx
    obtain ⟨ao, cp0, rfl⟩ := own_slice own

    by_cases hin : (0 ≤ place ∧ place < mem.length) ∧ xs.length < most ∧ loI (mget mem place) ≠ 0
    · obtain ⟨⟨hp0, hp1⟩, hlt, hne⟩ := hin
      have HW : Hid (walkL (lnk c) mem (most - xs.length) place = loI (mget mem place) :: walkL (lnk c) mem (most - (xs.length + 1)) (lnk c (loI (mget mem place)))) := walk_step hlt ⟨hp0, hp1, hne⟩
      have hci := (Below.cell hk hgl).trans (hcell (place).toNat (by omega))
      rw [show (((place).toNat : Nat) : Int) = place from by omega] at hci
      clear hcell
      have hU := mget_all hall place
      have hlo := loI_range (mget mem place)
      obtain ⟨hlo0, hlo1⟩ := hlo
      have x1 := wrap_u32_lo (mget mem place)
      have x2 := wrap_i64_u32 hlo0 hlo1
      have hneb : (loI (mget mem place) == 0) = false := by simpa using hne
      have hlt' : (xs.length : Int) < most := by omega
      have HA : Hid ((loI (mget mem place)) = (loI (mget mem place))) := rfl
      generalize loI (mget mem place) = r at *
      clear hU hne hlt
      go_wp2_with (at_builtin; refine wpList_append_lies _ rfl _ _ 36 rfl w.heap.size 3 i0 (.int .i64 0) 1 8 Try.underlying36 hi hz0 hz1 hz2 rfl (by decide) _ _ _ rfl (own.alloc _) ⟨wr.heap.size, 0, none⟩ 1 1 [.int .i64 r] rfl rfl ?b1 ?b2 (by omega) ?b3 ?b4 ?b5 _ rfl ?_)
      all_goals first
        | (intro j u hj; match j, hj with | 0, hj => (simp at hj; subst hj; simp [Addr.add]; done))
        | (intro u hu; simp at hu; subst hu; rfl)
        | rfl
        | (unfold maxLen; omega)
        | omega
        | (simp; done)
        | (have := hk.size; simp; omega)
        | (have := hk.size; omega)
        | skip
      intro gb cp w2 own2 hgrow _ _
      have hk2 : Kept w w2 := (hk.alloc hk.size _).grown hgrow (by have := hk.size; first | (simp; done) | (simp; omega)) (fun q hq => by have := (ownsRow_base own q hq).1; omega)
      have hm2 := hm.kept hk2 hB
      clear hgrow
      go_wp2_with fail
      refine (mLink_any r w2 hm2 hg).mono ?_; rintro e w3 ⟨rfl, rfl⟩
      go_wp2_with fail
      go_step3
      simp only [Exit.then]
      have HXo := HX.out
      have HWo := HW.out
      refine ⟨rfl, ⟨_, _, xs ++ [r], _, _, _, _, _, _, _, _, _, _, _, _, _, _, _, _, _, _, _, _, _, _, _, _, _, _, _, _, _, _, _, rfl, by simpa using own2, hk2, by simp; omega, ?_⟩, ?_⟩
      · rw [← HXo, HWo]; simp
      · simp [lenOf]; omega

    · skip
      · have HWs : Hid (walkL (lnk c) mem (most - xs.length) place = []) := walk_stop (fun h => hin ⟨⟨h.2.1, h.2.2.1⟩, h.1, h.2.2.2⟩)
        have hcx : 0 ≤ place → place < mem.length → w.cell? ⟨g, (place).toNat, none⟩ = some (.int .u64 (mget mem place)) := fun h1 h2 => by
          have := hcell (place).toNat (by omega)
          rw [show (((place).toNat : Nat) : Int) = place from by omega] at this
          exact this
        replace hcx : Hid _ := hcx
        replace hin : Hid _ := hin
        clear hcell
        by_cases k1 : 0 ≤ place
        · by_cases k2 : place < mem.length
          · by_cases k3 : (xs.length : Int) < most
            · have hci := (Below.cell hk hgl).trans (hcx.out k1 k2)
              have hz : loI (mget mem place) = 0 := by
                have := hin.out
                by_cases hz : loI (mget mem place) = 0
                · exact hz
                · exact absurd ⟨⟨k1, k2⟩, by omega, hz⟩ this
              have x1 := wrap_u32_lo (mget mem place)
              rw [hz] at x1
              have hU := mget_all hall place
              clear hz
              go_wp2_with fail
              (try simp only [Exit.jump]); go_ret; exact ⟨_, rfl, by rw [← HX.out, HWs.out, List.append_nil]; exact own, hk⟩
            · go_wp2_with fail
              (try simp only [Exit.jump]); go_ret; exact ⟨_, rfl, by rw [← HX.out, HWs.out, List.append_nil]; exact own, hk⟩
          · go_wp2_with fail
            (try simp only [Exit.jump]); go_ret; exact ⟨_, rfl, by rw [← HX.out, HWs.out, List.append_nil]; exact own, hk⟩
        · go_wp2_with fail
          (try simp only [Exit.jump]); go_ret; exact ⟨_, rfl, by rw [← HX.out, HWs.out, List.append_nil]; exact own, hk⟩


end Go.Proofs.Ytfbcadknimfhjaa

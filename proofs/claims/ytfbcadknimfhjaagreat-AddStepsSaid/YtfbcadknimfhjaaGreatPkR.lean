/- The document's memory: a list, and each access makes another one: walked. The document's words: halves, and pairs: walked. -/
import Derived.Test.YtfbcadknimfhjaaGreatPkP
import Derived.Test.YtfbcadknimfhjaaGreatPkC
import Derived.Test.YtfbcadknimfhjaaGreatPkU
import Derived.Test.YtfbcadknimfhjaaGreatPkH
import Derived.Test.YtfbcadknimfhjaaGreatPkA
namespace Go.Proofs.YtfbcadknimfhjaaGreat
open Go.RowKit

theorem ownsRow_set {w : World} {base g n cap i : Nat} {e : TypeId} {xs : List Value} (h : w.ownsRow base e 1 (.slice (some ⟨g, 0, none⟩) n cap) n xs) (x : Value) : (w.setCell ⟨g, i, none⟩ x).ownsRow base e 1 (.slice (some ⟨g, 0, none⟩) n cap) n (xs.set i x) := by
  obtain ⟨hl, h0 | ⟨g', cap', cur, hv, hb, hh, h1, h2, h3, h4⟩⟩ := h
  · exact absurd h0.1 (by simp)
  · simp at hv
    obtain ⟨rfl, rfl⟩ := hv
    refine ⟨by simp [hl], .inr ⟨g, cap, cur.setIfInBounds i x, rfl, hb, heap_setCell_same w g i cur e x hh, h1, h2, by simp [h3], ?_⟩⟩
    rw [Array.toList_setIfInBounds, List.take_set, h4]

theorem own_free {w : World} {base g n cap i : Nat} {e : TypeId} {xs : List Value} (h : w.ownsRow base e 1 (.slice (some ⟨g, 0, none⟩) n cap) n xs) : w.frozen? ⟨g, i, none⟩ = false := by
  obtain ⟨hl, h0 | ⟨g', cap', cur, hv, hb, hh, h1, h2, h3, h4⟩⟩ := h
  · exact absurd h0.1 (by simp)
  · simp at hv
    obtain ⟨rfl, rfl⟩ := hv
    exact frozen_of_row w g i cur e hh

theorem info_u64' : (Tryz.prog.info? 25).map (fun i => (i.zero, i.size, i.bytes)) = some (some (.int .u64 0), 1, 8) := by kernel_rfl

theorem Row.chgR {w w' : World} {v : Value} {xs : List Value} {S : Nat → Prop} (h : Row w v xs) (k : Chg S w w') (hn : 0 < xs.length → ∀ g, v.ownBlock = some g → ¬ S g) : Row w' v xs := by
  obtain ⟨ao, cap, rfl, hm, hc⟩ := h.ex
  refine ⟨ao, cap, rfl, hm, fun i u hi => ?_⟩
  obtain ⟨g, rfl, hl, h0⟩ := hc i u hi
  have hpos : 0 < xs.length := by
    rcases Nat.eq_zero_or_pos xs.length with h | h
    · rw [List.length_eq_zero_iff.1 h] at hi; simp at hi
    · exact h
  exact ⟨g, rfl, Nat.lt_of_lt_of_le hl k.size, by rw [cell_of_heap (k.block g hl (hn hpos g rfl))]; exact h0⟩

theorem Row.blockLt {w : World} {v : Value} {xs : List Value} (h : Row w v xs) (hp : 0 < xs.length) (g : Nat) (hg : v.ownBlock = some g) : g < w.heap.size := by
  obtain ⟨ao, cap, rfl, hm, hc⟩ := h.ex
  obtain ⟨g', rfl, hl, _⟩ := hc 0 _ (List.getElem?_eq_getElem hp)
  simp [Value.ownBlock] at hg
  omega

/-- A list that was handed on, or is new, isn't at a block that was laid between. -/
theorem Row.past {w w6 w' : World} {v v' : Value} {xs ys : List Value} {N : Nat} {S : Nat → Prop} (h : Row w v xs) (h6 : Row w6 v' ys) (hl : ys.length = xs.length) (hS : ∀ q, S q → w.heap.size ≤ q ∧ q < N) (hg : ∀ g, v'.ownBlock = some g → v' = v ∨ N ≤ g) (k : Chg S w6 w') : Row w' v' ys := by
  refine h6.chgR k (fun hp g e hq => ?_)
  have hs := hS g hq
  rcases hg g e with rfl | h2
  · have := h.blockLt (by omega) g e
    omega
  · omega

/-- A memory, as a list. -/
abbrev MemV (w : World) (v : Value) (mem : List Int) : Prop := Row w v (mem.map (Value.int .u64))

theorem loadL_ref {v : Value} {mem : List Int} (a : Int) (w : World) (h : MemV w v mem) :
    Calls Tryz.prog 92 #[v, .int .i64 a] w fun e w' => e = .returned (.int .u64 (mget mem a)) ∧ w = w' := by
  obtain ⟨ao, cap, rfl, hm, hc⟩ := h.at
  have HC : Hid _ := hc
  clear hc h
  by_cases ha : 0 ≤ a ∧ a < mem.length
  · obtain ⟨k, rfl⟩ : ∃ k : Nat, a = k := ⟨a.toNat, by omega⟩
    obtain ⟨h0, h1⟩ := ha
    have HG : Hid (mget mem k = mem[k]?.getD 0) := by unfold Hid mget; rw [if_pos ⟨h0, h1⟩]; rfl
    obtain ⟨g, rfl, hcell⟩ := HC.out k (by omega)
    obtain ⟨x, hx⟩ : ∃ x, mem[k]?.getD 0 = x := ⟨_, rfl⟩
    rw [hx] at hcell
    have HX : Hid (mem[k]?.getD 0 = x) := hx
    clear hx
    go_enter Tryz.func92, Tryz.ntmps92
    go_wp2_with fail
    go_ret
    exact ⟨by rw [HG.out, HX.out]; rfl, rfl⟩
  · have HG : Hid (mget mem a = 0) := by unfold Hid mget; rw [if_neg ha]
    by_cases h0 : a < 0
    · go_enter Tryz.func92, Tryz.ntmps92
      go_wp2_with fail
      go_ret
      exact ⟨by rw [HG.out]; rfl, rfl⟩
    · have h1 : a ≥ mem.length := by omega
      clear ha
      go_enter Tryz.func92, Tryz.ntmps92
      go_wp2_with fail
      go_ret
      exact ⟨by rw [HG.out]; rfl, rfl⟩

set_option maxRecDepth 8000 in
set_option maxHeartbeats 1600000 in
theorem putL_ref {v : Value} {mem : List Int} (a x : Int) (w : World) (h : MemV w v mem) (hlen : mem.length ≤ 20000) :
    Calls Tryz.prog 22 #[v, .int .i64 a, .int .u64 x] w fun e w' => ∃ v', e = .returned v' ∧ MemV w' v' (mput mem a x) ∧ Kept w w' ∧ (∀ g, v'.ownBlock = some g → v' = v ∨ w.heap.size ≤ g) := by
  obtain ⟨i0, hi, hz0, hz1, hz2⟩ := info_parts info_u64'
  have hrow := h
  obtain ⟨ao, cap, rfl, hm, hc⟩ := h.at
  have HR : Hid (MemV w (.slice ao mem.length cap) mem) := hrow
  have HC : Hid _ := hc
  clear hc h hrow
  by_cases ha : 0 ≤ a ∧ a < mem.length
  · obtain ⟨k, rfl⟩ : ∃ k : Nat, a = k := ⟨a.toNat, by omega⟩
    obtain ⟨h0, h1⟩ := ha
    have HG : Hid ((mput mem k x).map (Value.int .u64) = (mem.map (Value.int .u64)).set k (.int .u64 x)) := by unfold Hid mput; rw [if_pos ⟨h0, h1⟩, List.map_set]; rfl
    obtain ⟨g, rfl, _⟩ := HC.out k (by omega)
    have HN : Hid (∀ j u, (mem.map (Value.int .u64))[j]? = some u → w.cell? ((⟨g, 0, none⟩ : Addr).add j) = some u) := fun j u hj => by
      obtain ⟨g', e, hcl⟩ := HC.out j (by
        rcases Nat.lt_or_ge j mem.length with h' | h'
        · exact h'
        · rw [List.getElem?_map, List.getElem?_eq_none h'] at hj; cases hj)
      simp at e
      subst e
      rw [List.getElem?_map] at hj
      rcases Nat.lt_or_ge j mem.length with h' | h'
      · rw [List.getElem?_eq_getElem h'] at hj hcl
        simp at hj
        subst hj
        rw [show ((⟨g, 0, none⟩ : Addr).add j) = ⟨g, j, none⟩ by simp [Addr.add]; intro hj0; exact hj0.symm]
        exact hcl
      · rw [List.getElem?_eq_none h'] at hj; cases hj
    have hpos : 0 < mem.length := by omega
    obtain ⟨ml, hml⟩ : ∃ ml, ml = mem.length := ⟨_, rfl⟩
    have HML : Hid (ml = mem.length) := hml
    rw [← hml] at h1 hpos hlen ⊢
    clear hml
    go_enter Tryz.func22, Tryz.ntmps22
    go_wp2_with (at_builtin; refine wpList_append_lies _ rfl _ _ 41 rfl w.heap.size 25 i0 (.int .u64 0) 1 8 Tryz.underlying41 hi hz0 hz1 hz2 rfl (by decide) _ _ _ rfl (World.ownsRow_nil _ _ _ _) ⟨g, 0, none⟩ ml cap (mem.map (Value.int .u64)) rfl ?c1 ?c2 ?c3 ?c4 ?c5 ?c6 ?c7 _ rfl ?_)
    case c1 => rw [HML.out]; simp
    case c2 => exact HN.out
    case c3 => intro u hu; simp at hu; obtain ⟨y, _, rfl⟩ := hu; rfl
    case c4 => exact hpos
    case c5 => unfold maxLen; omega
    case c6 => omega
    case c7 => exact Nat.le_refl _
    intro gn cpn w2 own2 hgrow _ hgl
    have hk2 : Kept w w2 := (Below.refl _ _).grown hgrow (Nat.le_refl _) (fun k e => by cases e)
    have ff := own_free (i := k) own2
    obtain ⟨g', e', hcell⟩ := own_cell own2 (k := k) (by simp; have := HML.out; omega)
    simp at e'
    subst e'
    obtain ⟨y, hy⟩ : ∃ y, (mem.map (Value.int .u64))[k]? = some y := ⟨_, List.getElem?_eq_getElem (by simp; have := HML.out; omega)⟩
    rw [hy] at hcell
    clear hy
    have own3 := ownsRow_set (i := k) own2 (.int .u64 x)
    rw [← HG.out] at own3
    have hk3 : Kept w (w2.setCell ⟨gn, k, none⟩ (.int .u64 x)) := Below.setCell hk2 (p := ⟨gn, k, none⟩) ((ownsRow_base own2 gn rfl).1) _
    clear hgrow own2
    go_wp2_with fail
    go_ret
    exact ⟨_, rfl, Row.ofOwn own3, hk3, fun g hg => .inr (ownsRow_base own3 g hg).1⟩
  · have HG : Hid (mput mem a x = mem) := by unfold Hid mput; rw [if_neg ha]
    by_cases h0 : a < 0
    · go_enter Tryz.func22, Tryz.ntmps22
      go_wp2_with fail
      go_ret
      exact ⟨_, rfl, by rw [HG.out]; exact HR.out, Below.refl _ _, fun g hg => .inl rfl⟩
    · have h1 : a ≥ mem.length := by omega
      clear ha
      go_enter Tryz.func22, Tryz.ntmps22
      go_wp2_with fail
      go_ret
      exact ⟨_, rfl, by rw [HG.out]; exact HR.out, Below.refl _ _, fun g hg => .inl rfl⟩

set_option maxRecDepth 8000 in
theorem swapL_ref {v : Value} {mem : List Int} (a old x : Int) (w : World) (h : MemV w v mem) (hlen : mem.length ≤ 20000) :
    Calls Tryz.prog 97 #[v, .int .i64 a, .int .u64 old, .int .u64 x] w fun e w' => ∃ v', e = .returned (.tuple #[v', .bool (mhit mem a old)]) ∧ MemV w' v' (if mhit mem a old then mput mem a x else mem) ∧ Kept w w' ∧ (∀ g, v'.ownBlock = some g → v' = v ∨ w.heap.size ≤ g) := by
  have hrow := h
  have P := putL_ref a x w h hlen
  obtain ⟨ao, cap, rfl, hm, hc⟩ := h.at
  have HR : Hid (MemV w (.slice ao mem.length cap) mem) := hrow
  have HC : Hid _ := hc
  clear hc h hrow
  by_cases ha : 0 ≤ a ∧ a < mem.length
  · obtain ⟨k, rfl⟩ : ∃ k : Nat, a = k := ⟨a.toNat, by omega⟩
    obtain ⟨h0, h1⟩ := ha
    have HG : Hid (mget mem k = mem[k]?.getD 0) := by unfold Hid mget; rw [if_pos ⟨h0, h1⟩]; rfl
    obtain ⟨g, rfl, hcell⟩ := HC.out k (by omega)
    obtain ⟨y, hy⟩ : ∃ y, mem[k]?.getD 0 = y := ⟨_, rfl⟩
    rw [hy] at hcell
    have HY : Hid (mem[k]?.getD 0 = y) := hy
    clear hy
    by_cases hyo : y = old
    · have HM : Hid (mhit mem k old = true) := by unfold Hid mhit; rw [decide_eq_true ⟨h0, h1⟩, HG.out, HY.out, decide_eq_true hyo]; rfl
      have hb : (y != old) = false := by simpa using hyo
      clear hyo
      rw [HM.out]
      simp only [↓reduceIte]
      go_enter Tryz.func97, Tryz.ntmps97
      go_wp2_with fail
      refine P.mono ?_; rintro e w2 ⟨v', rfl, hv', hk, hg⟩
      go_wp2_with fail
      go_ret2
      exact ⟨_, rfl, hv', hk, hg⟩
    · have HM : Hid (mhit mem k old = false) := by unfold Hid mhit; rw [HG.out, HY.out, decide_eq_false hyo, Bool.and_false]
      have hb : (y != old) = true := by simpa using hyo
      clear hyo
      rw [HM.out]
      simp only [Bool.false_eq_true, ↓reduceIte]
      go_enter Tryz.func97, Tryz.ntmps97
      go_wp2_with fail
      go_ret2
      exact ⟨_, rfl, HR.out, Below.refl _ _, fun g hg => .inl rfl⟩
  · have HM : Hid (mhit mem a old = false) := by unfold Hid mhit; rw [decide_eq_false ha, Bool.false_and]
    rw [HM.out]
    simp only [Bool.false_eq_true, ↓reduceIte]
    by_cases h0 : a < 0
    · go_enter Tryz.func97, Tryz.ntmps97
      go_wp2_with fail
      go_ret2
      exact ⟨_, rfl, HR.out, Below.refl _ _, fun g hg => .inl rfl⟩
    · have h1 : a ≥ mem.length := by omega
      clear ha
      go_enter Tryz.func97, Tryz.ntmps97
      go_wp2_with fail
      go_ret2
      exact ⟨_, rfl, HR.out, Below.refl _ _, fun g hg => .inl rfl⟩

end Go.Proofs.YtfbcadknimfhjaaGreat

namespace Go.Proofs.YtfbcadknimfhjaaGreat
open Go.RowKit

theorem u32_in {x : Int} (h0 : 0 ≤ x) (h1 : x < 4294967296) : IntKind.u32.wrap x = x := by rw [IntKind.wrap_u32]; omega
theorem u64_in {x : Int} (h0 : 0 ≤ x) (h1 : x < 18446744073709551616) : IntKind.u64.wrap x = x := by rw [IntKind.wrap_u64]; omega

theorem low_ref (x : Int) (w : World) (hx : U x) :
    Calls Tryz.prog 98 #[.int .u64 x] w fun e w' => e = .returned (.int .u32 (loI x)) ∧ w = w' := by
  obtain ⟨h0, h1⟩ := hx
  have hl := loI_bound x
  have y0 : x.tmod 4294967296 = loI x := by rw [Int.tmod_eq_emod_of_nonneg h0]; rfl
  have y1 : IntKind.u64.wrap (loI x) = loI x := u64_in (by omega) (by omega)
  have y2 : IntKind.u32.wrap (loI x) = loI x := u32_in (by omega) (by omega)
  go_enter Tryz.func98, Tryz.ntmps98
  go_wp2_with fail
  go_ret
  exact ⟨rfl, rfl⟩

theorem high_ref (x : Int) (w : World) (hx : U x) :
    Calls Tryz.prog 109 #[.int .u64 x] w fun e w' => e = .returned (.int .u32 (hiI x)) ∧ w = w' := by
  obtain ⟨h0, h1⟩ := hx
  have hl := hiI_bound h0 (by omega)
  have y0 : x.tdiv 4294967296 = hiI x := by rw [Int.tdiv_eq_ediv_of_nonneg h0]; rfl
  have y1 : IntKind.u64.wrap (hiI x) = hiI x := u64_in (by omega) (by omega)
  have y2 : IntKind.u32.wrap (hiI x) = hiI x := u32_in (by omega) (by omega)
  go_enter Tryz.func109, Tryz.ntmps109
  go_wp2_with fail
  go_ret
  exact ⟨rfl, rfl⟩

theorem pair_ref (a b : Int) (w : World) (ha : 0 ≤ a ∧ a < 4294967296) (hb : 0 ≤ b ∧ b < 4294967296) :
    Calls Tryz.prog 108 #[.int .u32 a, .int .u32 b] w fun e w' => e = .returned (.int .u64 (a * 4294967296 + b)) ∧ w = w' := by
  have y1 : IntKind.u64.wrap a = a := u64_in (by omega) (by omega)
  have y2 : IntKind.u64.wrap b = b := u64_in (by omega) (by omega)
  have y3 : IntKind.u64.wrap (a * 4294967296) = a * 4294967296 := u64_in (by omega) (by omega)
  have y4 : IntKind.u64.wrap (a * 4294967296 + b) = a * 4294967296 + b := u64_in (by omega) (by omega)
  go_enter Tryz.func108, Tryz.ntmps108
  go_wp2_with fail
  go_ret
  exact ⟨rfl, rfl⟩

end Go.Proofs.YtfbcadknimfhjaaGreat

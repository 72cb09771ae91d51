/- A packet's machine: what begins. -/
import Derived.Test.YtfbcadknimfhjaaPkPkS
import Derived.Test.YtfbcadknimfhjaaPkPackD
import Derived.Test.YtfbcadknimfhjaaPkM
namespace Go.Proofs.Ytfbcadknimfhjaa
open Go.RowKit

/-- What a put begins with. -/
def put0 (ts : List Int) : PM := if ts.length = 0 then ⟨.done, [], 0, 0, ⟨.popHead, 5, 0, 0, 0⟩⟩ else ⟨.spare, ts.take 4, 0, 0, ⟨.popHead, 5, 0, 0, 0⟩⟩

def take0 : PM := ⟨.last, [], 0, 0, ⟨.popHead, 4, 0, 0, 0⟩⟩

def back0 (c : Cfg) (p : Int) : PM := if 1 ≤ p ∧ p ≤ manyI c then ⟨.last, [], 0, 0, ⟨.pushHead, 5, p, 0, 0⟩⟩ else ⟨.done, [], 0, 0, ⟨.pushHead, 5, p, 0, 0⟩⟩

theorem PmAt.blt2 {w : World} {b bi gt bm bs bl : Nat} {s : PM} (h : PmAt w b bi gt bm bs bl s) : b < w.heap.size := by
  obtain ⟨_, _, _, _, tv, iv, hb, _, _⟩ := h
  exact hb.lt

section
variable {bm bs bl B : Nat} {c : Cfg} {mem : List Int} {n : Int}

theorem putU {ao : Option Addr} {tl cap : Nat} {ts : List Int} (w : World) (hs : StoreAt w bs bl mem n) (hm : MapAt w B bm c) (hB : B ≤ w.heap.size) (ht : Reads w (.slice ao tl cap) (ts.map (Value.int .u64))) (hn : tl = ts.length) (hall : ∀ x ∈ ts, U x) (hle : ts.length ≤ 1000) :
    Calls Try.prog 57 #[.pointer (some ⟨bm, 0, none⟩), .slice ao tl cap] w fun e w' => ∃ b, e = .returned (.pointer (some ⟨b, 0, none⟩)) ∧ PkAt w' b B bm bs bl (fun q => B ≤ q ∧ q < w.heap.size) (put0 ts) ∧ Kept w w' := by
  obtain ⟨s1, s2⟩ := hs.lt
  by_cases h0 : ts.length = 0
  · obtain rfl : tl = 0 := by omega
    refine (putEmpty (.pointer (some ⟨bm, 0, none⟩)) (.inr ⟨bm, rfl⟩) ao cap (fun e => ?_) w).mono ?_
    · subst e
      rcases ht with ⟨e, _⟩ | ⟨ad, cap', e, _⟩
      · simp only [Value.slice.injEq] at e; exact e.2.2
      · simp at e
    · rintro e w' ⟨rfl, hp, hk⟩
      refine ⟨_, rfl, ?_, hk⟩
      unfold put0; rw [if_pos h0]
      exact ⟨⟨fun e => (by cases e), fun e => (by cases e)⟩, hB, hp.lt, ⟨by omega, by omega, fun e => (by omega)⟩, .inl ⟨rfl, hp⟩⟩
  · have h0' : 0 < ts.length := by omega
    obtain rfl := hn
    rcases ht with ⟨_, e⟩ | ⟨ad, cap', e, hc1, _, hcell⟩
    · have := congrArg List.length e; simp at this; simp [this] at h0
    simp only [Value.slice.injEq] at e
    obtain ⟨rfl, _, rfl⟩ := e
    have hadl : ad.block < w.heap.size := by
      have hb : (ad.add 0).block = ad.block := by unfold Addr.add; split <;> rfl
      rw [← hb]
      exact lt_of_cell (hcell 0 (.int .u64 (ts[0]'h0')) (by rw [List.getElem?_map, List.getElem?_eq_getElem h0']; rfl))
    refine (packPut_any w hs hm (by simpa using hc1) hcell hadl hall h0' hle).mono ?_
    rintro e w' ⟨b, bi, gt, rfl, hp, h1, h2, h3, h4, hk⟩
    refine ⟨b, rfl, ?_, hk⟩
    unfold put0; rw [if_neg h0]
    exact ⟨⟨fun _ => ⟨rfl, (by simp; omega)⟩, fun e => (by cases e)⟩, by omega, hp.blt2, ⟨by omega, by omega, fun e => (by omega)⟩, .inr ⟨bi, gt, hp, by omega, h4, ⟨by omega, by omega, fun e => (by omega)⟩, ⟨by omega, by omega, fun e => (by omega)⟩⟩⟩

end

end Go.Proofs.Ytfbcadknimfhjaa

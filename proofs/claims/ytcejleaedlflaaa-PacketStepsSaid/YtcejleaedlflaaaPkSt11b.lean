/- Packets beside the document's: what begins, on both sides. -/
import Derived.Test.YtcejleaedlflaaaPkSt11
import Derived.Test.YtcejleaedlflaaaPkM
namespace Go.Proofs.Ytcejleaedlflaaa
open Go.RowKit

theorem pcN11_zero (q : PPc) : (pcN11 q == 0) = q.fin := by cases q <;> rfl

theorem cnt_was (n : Int) (q : PPc) : (cntIf q.fin n == IntKind.i64.wrap (n + 1)) = decide (pcN11 q > 0) := by
  have hne : ¬ n = IntKind.i64.wrap (n + 1) := by
    rw [IntKind.wrap_i64]; omega
  cases q
  · simp only [PPc.fin, cntIf, pcN11]
    simpa using hne
  all_goals
    simp only [PPc.fin, cntIf, pcN11]
    rw [IntKind.wrap_i64]
    simp [cnt, wrap64]

/-- What a machine of the document begins with. -/
def Beg (c : Cfg) (w w' : World) (e : Ending) (vp : Value) (n : Nat) (s : PM) : Prop := ∃ v' tv xv, e = .returned v' ∧ R11 w' v' (linksL c) tv xv s ∧ Kept w w' ∧ (∀ g, xv.ownBlock = some g → w.heap.size ≤ g) ∧ (∀ g, tv.ownBlock = some g → vp.ownBlock = some g ∧ 0 < n)

theorem putRU {c : Cfg} {a : Value} {ao : Option Addr} {tl cap : Nat} {ts : List Int} (w : World) (hg : Good c) (ha : MapV w c a) (ht : Reads w (.slice ao tl cap) (ts.map (Value.int .u64))) (hn : tl = ts.length) (hle : ts.length ≤ 1000) :
    Calls Try.prog 19 #[a, .slice ao tl cap] w fun e w' => Beg c w w' e (.slice ao tl cap) tl (put0 ts) := by
  by_cases h0 : ts.length = 0
  · obtain rfl : tl = 0 := by omega
    refine (putR_none ⟨.popHead, 5, 0, 0, 0⟩ w ha ao cap).mono ?_
    rintro e w' ⟨v', rfl, hr, hk⟩
    unfold put0; rw [if_pos h0]
    exact ⟨v', _, _, rfl, hr, hk, fun g e => (by cases e), fun g e => (by cases e)⟩
  · have h0' : 0 < ts.length := by omega
    rcases id ht with ⟨_, e⟩ | ⟨ad, cap', e, hc1, hc2, hcell⟩
    · have := congrArg List.length e; simp at this; simp [this] at h0
    simp only [Value.slice.injEq] at e
    obtain ⟨rfl, _, rfl⟩ := e
    refine (putR_ref w hg ha ht hn h0' hle ⟨by simpa [hn] using hc1, hc2⟩).mono ?_
    rintro e w' ⟨v', xv, rfl, hr, hk, hx⟩
    unfold put0; rw [if_neg h0]
    exact ⟨v', _, xv, rfl, hr, hk, hx, fun g e => ⟨e, by omega⟩⟩

theorem takeRU {c : Cfg} {a : Value} (vp : Value) (tl : Nat) (w : World) (hg : Good c) (ha : MapV w c a) :
    Calls Try.prog 21 #[a] w fun e w' => Beg c w w' e vp tl take0 := by
  refine (takeR_ref w hg ha).mono ?_
  rintro e w' ⟨v', xv, rfl, hr, hk, hx⟩
  exact ⟨v', _, xv, rfl, hr, hk, hx, fun g e => (by cases e)⟩

theorem backRU {c : Cfg} {a : Value} (vp : Value) (tl : Nat) (p : Int) (w : World) (hg : Good c) (ha : MapV w c a) :
    Calls Try.prog 23 #[a, .int .i64 p] w fun e w' => Beg c w w' e vp tl (back0 c p) := by
  by_cases hp : 1 ≤ p ∧ p ≤ manyI c
  · refine (backR_ref p w hg ha hp).mono ?_
    rintro e w' ⟨v', xv, rfl, hr, hk, hx⟩
    unfold back0; rw [if_pos hp]
    exact ⟨v', _, xv, rfl, hr, hk, hx, fun g e => (by cases e)⟩
  · refine (backR_none p ⟨.pushHead, 5, p, 0, 0⟩ w ha hp).mono ?_
    rintro e w' ⟨v', rfl, hr, hk⟩
    unfold back0; rw [if_neg hp]
    exact ⟨v', _, _, rfl, hr, hk, fun g e => (by cases e), fun g e => (by cases e)⟩

end Go.Proofs.Ytcejleaedlflaaa

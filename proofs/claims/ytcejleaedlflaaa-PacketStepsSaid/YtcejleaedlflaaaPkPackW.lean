/- A packet's machine is run: any step; so many steps: walked. -/
import Derived.Test.YtcejleaedlflaaaPkPackD
import Derived.Test.YtcejleaedlflaaaPkE
namespace Go.Proofs.Ytcejleaedlflaaa
open Go.RowKit

/-- One access more, or none. -/
def cntIf (done : Bool) (n : Int) : Int := if done then n else cnt n

theorem pstep_all {b bi gt bm bs bl B : Nat} {c : Cfg} {s : PM} {mem : List Int} {n : Int} (w : World) (hg : Good c) (h : PmAt w b bi gt bm bs bl s) (hs : StoreAt w bs bl mem n) (hm : MapAt w B bm c) (hlt : gt < w.heap.size) (hok : PmOk s) :
    Calls Try.prog 25 #[.pointer (some ⟨b, 0, none⟩), .pointer (some ⟨bs, 0, none⟩)] w fun e w' => e = .returned (.bool (pmStep c mem s).2.pc.fin) ∧
      (∃ bi', PmAt w' b bi' gt bm bs bl (pmStep c mem s).2 ∧ (bi' = bi ∨ w.heap.size ≤ bi')) ∧ StoreAt w' bs bl (pmStep c mem s).1 (cntIf s.pc.fin n) ∧ Chg (PmB b bi bs bl) w w' := by
  cases hf : s.pc.fin
  · exact pstep_any w hg h hs hm hlt hok.fill hf
  · have hd := fin_iff.1 hf
    rw [pmStep_done hd]
    refine (pstepDone w _ h hd).mono ?_
    rintro e w2 ⟨rfl, rfl⟩
    exact ⟨ret_bool hf.symm, ⟨bi, h, .inl rfl⟩, hs, Chg.refl _ _⟩

theorem Chg.stepNew {b bi bi' bs bl : Nat} {w w1 w2 : World} (h : Chg (PmB b bi bs bl) w w1) (k : Chg (PmB b bi' bs bl) w1 w2) (hb : bi' = bi ∨ w.heap.size ≤ bi') : Chg (PmB b bi bs bl) w w2 :=
  h.thenNew k (fun i hi e => by
    rcases e with e | e | e | e
    · exact .inl e
    · rcases hb with hb | hb
      · exact .inr (.inl (by omega))
      · omega
    · exact .inr (.inr (.inl e))
    · exact .inr (.inr (.inr e)))

/-- A machine has been run: it, and memory, are so. -/
def PmRan (w w' : World) (b bi gt bm bs bl : Nat) (x : List Int × PM) : Prop := ∃ bi' n', PmAt w' b bi' gt bm bs bl x.2 ∧ (bi' = bi ∨ w.heap.size ≤ bi') ∧ StoreAt w' bs bl x.1 n'

theorem mpack_is {b bi gt bm bs bl : Nat} {s : PM} (w : World) (h : PmAt w b bi gt bm bs bl s) :
    Calls Try.prog 27 #[.pointer (some ⟨b, 0, none⟩)] w fun e w' => e = .returned (.int .i64 s.packet) ∧ w = w' := mPacket_any w h

set_option maxRecDepth 8000 in
theorem whole11_any {b bi gt bm bs bl B : Nat} {c : Cfg} {s : PM} {mem : List Int} {n : Int} (w : World) (hg : Good c) (h : PmAt w b bi gt bm bs bl s) (hs : StoreAt w bs bl mem n) (hm : MapAt w B bm c) (hB : B ≤ w.heap.size) (hlt : gt < w.heap.size) (hok : PmOk s) (h1 : B ≤ b) (h2 : B ≤ bi) (h3 : B ≤ bs) (h4 : B ≤ bl) :
    Calls Try.prog 10 #[.pointer (some ⟨b, 0, none⟩), .pointer (some ⟨bs, 0, none⟩)] w fun e w' => e = .returned (.int .i64 (pmRun c 14 (mem, s)).2.packet) ∧
      PmRan w w' b bi gt bm bs bl (pmRun c 14 (mem, s)) ∧ Chg (PmB b bi bs bl) w w' := by
  go_enter Try.func10, Try.ntmps10
  go_wp2_with fail
  go_loopw [5] (fun iv wr => ∃ (k : Nat) (bi' : Nat) (n' : Int), k ≤ 14 ∧ iv = .int .i64 k ∧ PmAt wr b bi' gt bm bs bl (pmRun c k (mem, s)).2 ∧ (bi' = bi ∨ w.heap.size ≤ bi') ∧ StoreAt wr bs bl (pmRun c k (mem, s)).1 n' ∧ Chg (PmB b bi bs bl) w wr) (fun iv _ => 14 - (intOf iv).toNat)
  case atStart => exact ⟨0, bi, n, by omega, rfl, h, .inl rfl, hs, Chg.refl _ _⟩
  case round =>
    obtain ⟨k, bi', n', hk, rfl, h', hbi, hs', hc⟩ := hrel
    have hok' : PmOk (pmRun c k (mem, s)).2 := pmRun_ok (x := (mem, s)) hok k
    have hm' : MapAt wr B bm c := hm.below (hc.toBelow hB (fun i hi e => by rcases e with e | e | e | e <;> omega)) (Nat.le_refl _)
    by_cases hk14 : (k : Int) < 14
    · have D := pstep_all wr hg h' hs' hm' (Nat.lt_of_lt_of_le hlt hc.size) hok'
      rw [show pmStep c (pmRun c k (mem, s)).1 (pmRun c k (mem, s)).2 = pmRun c (k + 1) (mem, s) from rfl] at D
      have HB : Hid (bi' = bi ∨ w.heap.size ≤ bi') := hbi
      clear hbi
      go_wp2_with fail
      refine D.mono ?_; rintro e w2 ⟨rfl, ⟨bi2, h2', hbi2⟩, hs2, hc2⟩
      go_wp2_with fail
      go_roundw
      case rel =>
        refine ⟨k + 1, bi2, _, by omega, by go_num, h2', ?_, hs2, hc.stepNew hc2 HB.out⟩
        have := HB.out
        have := hc.size
        omega
      case measure => simp [intOf]; omega
    · obtain rfl : k = 14 := by omega
      go_wp2_with fail
      refine (mpack_is wr h').mono ?_; rintro e w2 ⟨rfl, rfl⟩
      go_wp2_with fail
      go_ret
      exact ⟨rfl, ⟨bi', n', h', hbi, hs'⟩, hc⟩

end Go.Proofs.Ytcejleaedlflaaa

/- A task that is done, and nodes that are marked: a step. Plain numbers. No program. -/
import Derived.Test.YtapdpclgbpgklaaGreatPkMk
import Derived.Test.YtapdpclgbpgklaaGreatPkL
namespace Go.Proofs.YtapdpclgbpgklaaGreat
open Go.RowKit

/-- What a step tells. -/
def Told (ev : Ev) (a a' : Int) (L L' : List Int) : Prop :=
  (ev.k = 1 ∧ L' = L ++ [ev.a] ∧ a' = a) ∨ (ev.k = 3 ∧ L' = L ∧ a' = a + 1) ∨ (ev.k ≠ 1 ∧ ev.k ≠ 3 ∧ L' = L ∧ a' = a)

theorem addI_small {x y : Int} (h0 : 0 ≤ x + y) (h1 : x + y ≤ 100000) : addI x y = x + y := by unfold addI; omega

theorem rgI_small (rg : Bool) : 0 ≤ rgI rg ∧ rgI rg ≤ 1 := by cases rg <;> simp [rgI]

section
variable {c : Cfg} {v fr cy : Int} {sl was : Int → Int} {al : Bool} {mem L : List Int} {b : Int}
theorem Md.few_all (h : Md c v fr cy sl was al mem L b) : L.length ≤ nN c := nodup_len h.nd h.rng
end

theorem less_back {x : Int} (h0 : 0 ≤ x) (h1 : x ≤ 100000) : addI (x + 1) 18446744073709551615 = x := by unfold addI; omega

/-- A task that is put somewhere begins. -/
theorem adds_begin {c : Cfg} {v fr cy : Int} {sl was : Int → Int} {al : Bool} {mem L : List Int} {s : YS} {a x : Int} {n : Int} (hg : Good c) (hb : s.v = v ∧ s.fr = fr ∧ s.cy = cy ∧ s.i = 0) (hp : s.pc = .adds) (h1 : s.at_ = a) (h2 : s.p1 = P1 c v fr) (h3 : fr ≤ a) (h4 : a ≤ P1 c v fr) (hm : Md c v fr cy sl was al mem L a) (hw : mget mem 1 = rgI (decide (P1 c v fr < room c v)) + L.length) (hT : Tk c mem n) (hn : n + 1 = rgI (decide (P1 c v fr < room c v)) + L.length) (ham : s.am = newAM c 0 x) :
    LM c v fr cy sl was al mem s (14 * (P1 c v fr - a).toNat + 11) a (decide (P1 c v fr < room c v)) L := by
  have hk : (0 : Int) ≤ 0 ∧ (0 : Int) < c.mks := by unfold Good at hg; omega
  obtain ⟨ts, P, S, e, hA⟩ := hT
  unfold LM
  rw [hp]
  exact ⟨hb, h1, h3, h4, h2, rfl, hm, hw, by rw [ham]; exact newAM_pc hk, mem, mem, ts, P, S, 0, x, by omega, by omega, by omega, hA, by rw [ham]; rfl, Ag.refl _ _⟩

set_option maxHeartbeats 1600000 in
theorem LM.step {c : Cfg} {v fr cy : Int} {sl was : Int → Int} {al : Bool} {mem L : List Int} {s : YS} {f : Nat} {a : Int} {rg : Bool} (hg : Good c) (hv : 1 ≤ v ∧ v ≤ nN c) (hf0 : 0 ≤ fr ∧ fr ≤ room c v) (h : LM c v fr cy sl was al mem s f a rg L) (hd : s.pc ≠ .done) :
    ∃ f' a' rg' L', f' < f ∧ LM c v fr cy sl was al (scStep c mem s).1 (scStep c mem s).2 f' a' rg' L' ∧ Told (scStep c mem s).2.ev a a' L L' := by
  have hk : (0 : Int) ≤ 0 ∧ (0 : Int) < c.mks := by unfold Good at hg; omega
  have hr := room_bound c v
  have hP : fr ≤ P1 c v fr ∧ P1 c v fr ≤ 16 := by unfold P1; unfold Good at hg; omega
  have hPr : P1 c v fr ≤ room c v := by unfold P1; omega
  have hn0 := node0_bound hg
  have hnn := nN_bound hg
  have hA0 := allI_bound hg
  obtain ⟨pc, i, v', fr', cy', p0, p1, at_, w0, cm, am, ev⟩ := s
  obtain ⟨⟨e1, e2, e3, e4⟩, h⟩ := h
  simp only at e1 e2 e3 e4 hd
  subst e1 e2 e3 e4
  cases pc
  case done => exact absurd rfl hd
  case head =>
    obtain ⟨rfl, rfl, rfl, rfl, hM, hw, hT⟩ := h
    have q1 : headN c mem v' = room c v' := by unfold headN; rw [hM.hd]; omega
    have hch : 1 ≤ c.ch ∧ c.ch ≤ 16 := by unfold Good at hg; omega
    have q2 : sI (room c v') = room c v' := by unfold sI clampI; omega
    have q3 : fI (room c v') a = a := by unfold fI sI clampI; omega
    have q4 : tI (room c v') a c.ch = P1 c v' a := by unfold tI fI sI clampI P1; omega
    simp only [scStep, q1, q2, q3, q4]
    by_cases hlt : P1 c v' a < room c v'
    · rw [if_pos hlt]
      exact ⟨290, a, false, [], by omega, ⟨⟨rfl, rfl, rfl, rfl⟩, rfl, rfl, rfl, rfl, rfl, rfl, hlt, hM, hw, hT⟩, .inr (.inr ⟨by decide, by decide, rfl, rfl⟩)⟩
    · rw [if_neg hlt]
      have hdc : decide (P1 c v' a < room c v') = false := decide_eq_false hlt
      obtain ⟨f', hf', hL⟩ := LM.slots (c := c) (v := v') (fr := a) (cy := cy') (sl := sl) (was := was) (al := al) (mem := mem) (L := []) (s := ⟨slotsPc a (P1 c v' a), 0, v', a, cy', a, P1 c v' a, a, w0, cm, am, Ev.zero⟩) (a := a) ⟨rfl, rfl, rfl, rfl⟩ rfl rfl rfl (by omega) hP.1 hM (by rw [hdc, hw]; rfl) (by rw [hdc]; exact hT)
      exact ⟨f', a, _, [], by omega, hL, .inr (.inr ⟨by decide, by decide, rfl, rfl⟩)⟩
  case count =>
    obtain ⟨rfl, rfl, rfl, rfl, e5, e6, hlt, hM, hw, hT⟩ := h
    simp only at e5 e6
    subst e5 e6
    have hdc : decide (P1 c v' at_ < room c v') = true := decide_eq_true hlt
    have hl1 : mget (mput mem 1 (addI (mget mem 1) 1)) 1 = 1 := by
      rw [mget_put (by have := hM.len; omega), hw]; unfold addI; omega
    simp only [scStep]
    refine ⟨_, at_, _, [], ?_, adds_begin (n := 0) hg ⟨rfl, rfl, rfl, rfl⟩ rfl rfl rfl (Int.le_refl _) hP.1 (hM.low hg hv (mput_len _ _ _) (fun b hb => mget_other (by omega))) (by rw [hdc, hl1]; rfl) (hT.low hg (mput_len _ _ _) (fun b _ h1 => mget_other h1)) (by rw [hdc]; rfl) rfl, .inr (.inr ⟨show (2 : Int) ≠ 1 by decide, show (2 : Int) ≠ 3 by decide, rfl, rfl⟩)⟩
    omega
  case adds =>
    obtain ⟨e5, h1, h2, e6, rfl, hM, hw, hfin, mem0, m', ts, P, S, j, x, hj, rfl, htn, hA, hrun, hag⟩ := h
    simp only at e5 e6 hw hfin hrun
    subst e5 e6
    have hfew := hM.few_all
    have hmm := many_more hg
    have hrs := rgI_small (decide (P1 c v' fr' < room c v'))
    have hdq : 2 ≤ c.dq := by unfold Good at hg; omega
    have hs : (ts.length : Int) + 1 ≤ c.dq + manyI c := by omega
    obtain ⟨K, hK, hb, hend, ⟨P', S', hA'⟩, hfr⟩ := add_ends x hg hk hA hs
    have e1 : m' = (amRun c 0 j (mem0, newAM c 0 x)).1 := by rw [← hrun]
    have e2 : am = (amRun c 0 j (mem0, newAM c 0 x)).2 := by rw [← hrun]
    have hjK : j ≤ K := by
      rcases Nat.lt_or_ge K j with h | h
      · rw [e2, amRun_upto rfl (afin_iff.1 hend) (show K + 1 ≤ j from h), hend] at hfin
        cases hfin
      · exact h
    have hst : amStep c 0 m' am = amRun c 0 (j + 1) (mem0, newAM c 0 x) := by rw [e1, e2]; rfl
    obtain ⟨⟨t1, t2, t3, t4⟩, _⟩ := am_loc (i := 0) (s := am) hg hag (by rw [e2]; exact (amRun_head hg x mem0 j).2)
    rw [hst] at t1 t2 t3
    have hw1 : mget (amStep c 0 mem am).1 1 = mget mem 1 := am_one hg hk (by rw [e2]; exact amRun_head hg x mem0 j)
    have hM' := hM.low hg hv (am_one2 hg hk (by rw [e2]; exact (amRun_head hg x mem0 j).1)).2 (fun b hb => t4 b hb)
    simp only [scStep, t1]
    cases hf : (amRun c 0 (j + 1) (mem0, newAM c 0 x)).2.pc.fin
    · simp only [Bool.false_eq_true, ↓reduceIte]
      have hjK' : j ≠ K := fun e => by subst e; rw [hend] at hf; cases hf
      exact ⟨_, at_, _, L, by omega, ⟨⟨rfl, rfl, rfl, rfl⟩, rfl, h1, h2, rfl, rfl, hM', by rw [hw1]; exact hw, hf, mem0, _, ts, P, S, j + 1, x, by omega, rfl, htn, hA, rfl, t2⟩, .inr (.inr ⟨by decide, by decide, rfl, rfl⟩)⟩
    · simp only [↓reduceIte]
      have hjK' : j = K := by
        rcases Nat.lt_or_ge j K with h | h
        · rw [hb j h] at hf; cases hf
        · omega
      subst hjK'
      have hT : Tk c (amStep c 0 mem am).1 (rgI (decide (P1 c v' fr' < room c v')) + L.length) := ⟨ts ++ [x], P', S', by simp; omega, hA'.frame hg hk t2.len (fun b b1 _ => t2.eq b b1)⟩
      obtain ⟨f', hf', hL⟩ := LM.slots (c := c) (v := v') (fr := fr') (cy := cy') (sl := sl) (was := was) (al := al) (mem := (amStep c 0 mem am).1) (L := L) (s := ⟨slotsPc at_ (P1 c v' fr'), 0, v', fr', cy', p0, P1 c v' fr', at_, w0, cm, (amRun c 0 (j + 1) (mem0, newAM c 0 x)).2, Ev.zero⟩) (a := at_) ⟨rfl, rfl, rfl, rfl⟩ rfl rfl rfl h1 h2 hM' (by rw [hw1]; exact hw) hT
      exact ⟨f', at_, _, L, by omega, hL, .inr (.inr ⟨by decide, by decide, rfl, rfl⟩)⟩
  case slot =>
    obtain ⟨rfl, e5, h1, h2, e6, rfl, hM, hw, hT⟩ := h
    simp only at e5 e6
    subst e5 e6
    simp only [scStep, hM.slo at_ (by omega) (by omega)]
    by_cases hq : 1 ≤ sl at_ ∧ sl at_ ≤ nN c
    · rw [if_pos hq]
      refine ⟨14 * (P1 c v' fr' - (at_ + 1)).toNat + 14, at_ + 1, _, L, ?_, ⟨⟨rfl, rfl, rfl, rfl⟩, rfl, by omega, by omega, rfl, rfl, by simp only []; rw [show at_ + 1 - 1 = at_ from by omega], hq, by rw [show at_ + 1 - 1 = at_ from by omega]; exact hM, rfl, rfl, rfl, hT, rfl, hw⟩, .inr (.inl ⟨rfl, rfl, rfl⟩)⟩
      omega
    · rw [if_neg hq]
      obtain ⟨f', hf', hL⟩ := LM.slots (c := c) (v := v') (fr := fr') (cy := cy') (sl := sl) (was := was) (al := al) (mem := mem) (L := L) (s := ⟨slotsPc (at_ + 1) (P1 c v' fr'), 0, v', fr', cy', p0, P1 c v' fr', at_ + 1, w0, cm, am, ⟨3, 0, v', at_, 0⟩⟩) (a := at_ + 1) ⟨rfl, rfl, rfl, rfl⟩ rfl rfl rfl (by omega) (by omega) (hM.skip h1 (fun g1 g2 => absurd ⟨g1, g2⟩ hq)) hw hT
      exact ⟨f', at_ + 1, _, L, by omega, hL, .inr (.inl ⟨rfl, rfl, rfl⟩)⟩
  case claims =>
    obtain ⟨e5, h1, h2, e6, rfl, e7, hq, hM, e8, e9, e10, hT, hc⟩ := h
    obtain ⟨cpc, cv, ccy, ck, cwon⟩ := cm
    simp only at e5 e6 e7 hq e8 e9 e10 hc
    subst e5 e6 e8 e9 e10
    have hfew := hM.few_all
    have hrs := rgI_small (decide (P1 c v' fr' < room c v'))
    have hmp := mark_place hg hq
    have hlen := hM.len
    cases cpc
    case done => exact hc.elim
    case look =>
      obtain ⟨rfl, hw⟩ := hc
      by_cases hge : mget mem (pNode c cv 2) ≥ ccy
      · have hst : cmStep c mem ⟨.look, cv, ccy, ck, false⟩ = (mem, ⟨.done, cv, ccy, mget mem (pNode c cv 2), false⟩) := by
          simp only [cmStep]; rw [if_pos hge]
        simp only [scStep, hst, CPc.fin, Bool.false_eq_true, ↓reduceIte]
        have hM2 := hM.skip h1 (by rw [← e7]; intros; exact hge)
        rw [show at_ - 1 + 1 = at_ from by omega] at hM2
        obtain ⟨f', hf', hL⟩ := LM.slots (c := c) (v := v') (fr := fr') (cy := ccy) (sl := sl) (was := was) (al := al) (mem := mem) (L := L) (s := ⟨slotsPc at_ (P1 c v' fr'), 0, v', fr', ccy, p0, P1 c v' fr', at_, cv, ⟨.done, cv, ccy, mget mem (pNode c cv 2), false⟩, am, Ev.zero⟩) (a := at_) ⟨rfl, rfl, rfl, rfl⟩ rfl rfl rfl (by omega) h2 hM2 hw hT
        exact ⟨f', at_, _, L, by omega, hL, .inr (.inr ⟨by decide, by decide, rfl, rfl⟩)⟩
      · have hst : cmStep c mem ⟨.look, cv, ccy, ck, false⟩ = (mem, ⟨.count, cv, ccy, mget mem (pNode c cv 2), false⟩) := by
          simp only [cmStep]; rw [if_neg hge]
        simp only [scStep, hst, CPc.fin, Bool.false_eq_true, ↓reduceIte]
        exact ⟨_, at_, _, L, by omega, ⟨⟨rfl, rfl, rfl, rfl⟩, rfl, h1, h2, rfl, rfl, e7, hq, hM, rfl, rfl, rfl, hT, rfl, hw, by show mget mem (pNode c cv 2) < ccy; omega, .inl rfl⟩, .inr (.inr ⟨by decide, by decide, rfl, rfl⟩)⟩
    case count =>
      obtain ⟨rfl, hw, hck, hmk⟩ := hc
      simp only [scStep, cmStep, CPc.fin, Bool.false_eq_true, ↓reduceIte]
      have hoth : ∀ b, b ≠ 1 → mget (mput mem 1 (addI (mget mem 1) 1)) b = mget mem b := fun b hb => mget_other hb
      refine ⟨_, at_, _, L, ?_, ⟨⟨rfl, rfl, rfl, rfl⟩, rfl, h1, h2, rfl, rfl, e7, hq, hM.low hg hv (mput_len _ _ _) (fun b hb => hoth b (by omega)), rfl, rfl, rfl, hT.low hg (mput_len _ _ _) (fun b _ h1 => hoth b h1), rfl, ?_, hck, ?_⟩, .inr (.inr ⟨by decide, by decide, rfl, rfl⟩)⟩
      · omega
      · rw [mget_put (by omega), hw, addI_small (by omega) (by omega)]
      · rw [hoth (pNode c cv 2) (by omega)]; exact hmk
    case swap =>
      obtain ⟨rfl, hw, hck, hmk⟩ := hc
      by_cases hhit : mget mem (pNode c cv 2) = ck
      · have hh : mhit mem (pNode c cv 2) ck = true := by
          unfold mhit; rw [hhit]; simp; omega
        have hst : cmStep c mem ⟨.swap, cv, ccy, ck, false⟩ = (mput mem (pNode c cv 2) ccy, ⟨.done, cv, ccy, ck, true⟩) := by
          simp only [cmStep, hh, if_true]
        simp only [scStep, hst, CPc.fin, ↓reduceIte]
        have hM2 := hM.win hg hv h1 (by rw [← e7]; exact hq) (by rw [← e7, hhit]; exact hck)
        rw [← e7, show at_ - 1 + 1 = at_ from by omega] at hM2
        refine ⟨_, at_, _, L ++ [cv], ?_, adds_begin (n := rgI (decide (P1 c v' fr' < room c v')) + L.length) hg ⟨rfl, rfl, rfl, rfl⟩ rfl rfl rfl (by omega) h2 hM2 ?_ (hT.low hg (mput_len _ _ _) (fun b hb _ => mget_other (by omega))) (by simp; omega) rfl, .inl ⟨rfl, rfl, rfl⟩⟩
        · omega
        · rw [mget_other (by omega), hw]; simp; omega
      · have hh : mhit mem (pNode c cv 2) ck = false := by
          unfold mhit; simp [hhit]
        have hst : cmStep c mem ⟨.swap, cv, ccy, ck, false⟩ = (mem, ⟨.back, cv, ccy, ck, false⟩) := by
          simp only [cmStep, hh, Bool.false_eq_true, if_false]
        simp only [scStep, hst, CPc.fin, Bool.false_eq_true, ↓reduceIte]
        refine ⟨_, at_, _, L, ?_, ⟨⟨rfl, rfl, rfl, rfl⟩, rfl, h1, h2, rfl, rfl, e7, hq, hM, rfl, rfl, rfl, hT, rfl, hw, ?_⟩, .inr (.inr ⟨by decide, by decide, rfl, rfl⟩)⟩
        · omega
        · rcases hmk with e | e
          · exact absurd e hhit
          · exact e.2
    case back =>
      obtain ⟨rfl, hw, hmk⟩ := hc
      simp only [scStep, cmStep, CPc.fin, Bool.false_eq_true, ↓reduceIte]
      have hoth : ∀ b, b ≠ 1 → mget (mput mem 1 (addI (mget mem 1) 18446744073709551615)) b = mget mem b := fun b hb => mget_other hb
      have hM2 := (hM.low hg hv (mput_len mem 1 (addI (mget mem 1) 18446744073709551615)) (fun b hb => hoth b (by omega))).skip h1 (by rw [← e7]; intros; rw [hoth (pNode c cv 2) (by omega)]; exact hmk)
      rw [show at_ - 1 + 1 = at_ from by omega] at hM2
      obtain ⟨f', hf', hL⟩ := LM.slots (c := c) (v := v') (fr := fr') (cy := ccy) (sl := sl) (was := was) (al := al) (mem := mput mem 1 (addI (mget mem 1) 18446744073709551615)) (L := L) (s := ⟨slotsPc at_ (P1 c v' fr'), 0, v', fr', ccy, p0, P1 c v' fr', at_, cv, ⟨.done, cv, ccy, ck, false⟩, am, Ev.zero⟩) (a := at_) ⟨rfl, rfl, rfl, rfl⟩ rfl rfl rfl (by omega) h2 hM2 (by rw [mget_put (by omega), hw, less_back (by omega) (by omega)]) (hT.low hg (mput_len _ _ _) (fun b _ h1 => hoth b h1))
      exact ⟨f', at_, _, L, by omega, hL, .inr (.inr ⟨by decide, by decide, rfl, rfl⟩)⟩
  case last =>
    obtain ⟨rfl, rfl, rfl, hM, hw⟩ := h
    have hlen := hM.len
    simp only [scStep]
    exact ⟨0, _, _, L, by omega, ⟨⟨rfl, rfl, rfl, rfl⟩, rfl, rfl, hM.low hg hv (mput_len _ _ _) (fun b hb => mget_other (by omega)), by rw [mget_put (by omega), hw]⟩, .inr (.inr ⟨show (4 : Int) ≠ 1 by decide, show (4 : Int) ≠ 3 by decide, rfl, rfl⟩)⟩

theorem LM.atDone {c : Cfg} {v fr cy : Int} {sl was : Int → Int} {al : Bool} {mem L : List Int} {s : YS} {f : Nat} {a : Int} {rg : Bool} (h : LM c v fr cy sl was al mem s f a rg L) (hp : s.pc = .done) : a = P1 c v fr ∧ rg = decide (P1 c v fr < room c v) ∧ Md c v fr cy sl was al mem L a ∧ mget mem 1 = addI (rgI rg + L.length) 18446744073709551615 := by
  unfold LM at h; rw [hp] at h; exact h.2

end Go.Proofs.YtapdpclgbpgklaaGreat

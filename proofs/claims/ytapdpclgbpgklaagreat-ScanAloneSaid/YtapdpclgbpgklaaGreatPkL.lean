/- A task that is done alone, where no node is to be marked: plain numbers. No program. A task that is done alone, where no node is to be marked: a step. Plain numbers. No program. All tasks of a node: how many there are, what was seen. Plain numbers. No program. All tasks of a node: what is left to say of a step. Plain numbers. No program. -/
import Derived.Test.YtapdpclgbpgklaaGreatPkI
import Derived.Test.YtapdpclgbpgklaaGreatPkK
import Derived.Test.YtapdpclgbpgklaaGreatPkF
namespace Go.Proofs.YtapdpclgbpgklaaGreat
open Go.RowKit

/-- A change of memory that no deque, and no packet, sees. -/
theorem AInv.frame {c : Cfg} {k : Int} {mem mem' ts P S : List Int} (hg : Good c) (hk : 0 ≤ k ∧ k < c.mks) (h : AInv c k mem ts P S) (hl : mem'.length = mem.length) (hf : ∀ a, a < node0I c → a ≠ 1 → mget mem' a = mget mem a) : AInv c k mem' ts P S := by
  have hn := node0_bound hg
  have hmb := manyI_bound hg
  have hq : 2 ≤ c.dq ∧ c.dq ≤ 8 := by unfold Good at hg; omega
  have hpk : pksI c ≤ node0I c := by unfold node0I; omega
  have pk : ∀ p j, 1 ≤ p → p ≤ manyI c → 0 ≤ j → j ≤ 5 → mget mem' (pPack c p j) = mget mem (pPack c p j) := fun p j p1 p2 j0 j1 => by
    have h1 := pack_place hg p1 p2 j0 j1
    exact hf _ h1.2.1 (by omega)
  have en : ∀ j, 0 ≤ j → j < 2 + c.dq → mget mem' (pEnd c k j) = mget mem (pEnd c k j) := fun j j0 j1 => by
    have z := pEnd_is hg hk j0 j1
    exact hf _ (by omega) (by omega)
  refine ⟨h.inv.mono _ hl ?_ ?_ (List.Sublist.refl _), by rw [en 0 (by omega) (by omega)]; exact h.top, by rw [en 1 (by omega) (by omega)]; exact h.bot, fun j hj hjq => by rw [en (2 + j) (by omega) (by omega)]; exact h.ents j hj hjq, h.pool, fun q hq' => ?_, h.all⟩
  · exact Linked.head h.inv.pool (by rw [hf 4 (by omega) (by omega)]) (fun p hp => by
      have := h.inv.rng p (by simp [hp])
      rw [show lnk c p = pPack c p 1 from rfl, pk p 1 this.1 this.2 (by omega) (by omega)])
  · exact Linked.head h.inv.spare (by rw [hf 5 (by omega) (by omega)]) (fun p hp => by
      have := h.inv.rng p (by simp [hp])
      rw [show lnk c p = pPack c p 1 from rfl, pk p 1 this.1 this.2 (by omega) (by omega)])
  · have hm : P[q]?.getD 0 ∈ P := by rw [List.getElem?_eq_getElem hq']; exact List.getElem_mem _
    have hr := h.inv.rng (P[q]?.getD 0) (by simp [hm])
    exact (h.cont q hq').frame (by simp) (fun j j0 j1 _ => pk _ j hr.1 hr.2 j0 j1)

theorem AInv.work {c : Cfg} {k : Int} {mem ts P S : List Int} (hg : Good c) (hk : 0 ≤ k ∧ k < c.mks) (h : AInv c k mem ts P S) (x : Int) : AInv c k (mput mem 1 x) ts P S :=
  h.frame hg hk (mput_len _ _ _) (fun _ _ h1 => mget_other h1)

/-- Heads and marks, as far as they count. -/
structure Gm (c : Cfg) (v cy : Int) (mem : List Int) : Prop where
  hd : mget mem (pNode c v 0) = room c v
  mks : ∀ u : Int, 1 ≤ u → u ≤ nN c → cy ≤ mget mem (pNode c u 2)

theorem pNode_far {c : Cfg} (hg : Good c) {v j : Int} (h : 1 ≤ v ∧ v ≤ nN c) (h0 : 0 ≤ j) (h1 : j < 4) : node0I c ≤ pNode c v j :=
  (node_place (c := c) h.1 h.2 h0 (by have := room_bound c v; omega)).1

theorem Gm.same {c : Cfg} {v cy : Int} {mem mem' : List Int} (hg : Good c) (hv : 1 ≤ v ∧ v ≤ nN c) (h : Gm c v cy mem) (hf : ∀ a, node0I c ≤ a → mget mem' a = mget mem a) : Gm c v cy mem' :=
  ⟨by rw [hf _ (pNode_far hg hv (by omega) (by omega))]; exact h.hd, fun u u1 u2 => by rw [hf _ (pNode_far hg ⟨u1, u2⟩ (by omega) (by omega))]; exact h.mks u u1 u2⟩

/-- Where a piece ends. -/
def P1 (c : Cfg) (v fr : Int) : Int := min (fr + c.ch) (room c v)

theorem piece_is {c : Cfg} {v fr cy : Int} {mem : List Int} (hg : Good c) (h : Gm c v cy mem) (hf : 0 ≤ fr ∧ fr ≤ room c v) : headN c mem v = room c v ∧ sI (room c v) = room c v ∧ fI (room c v) fr = fr ∧ tI (room c v) fr c.ch = P1 c v fr := by
  have hr := room_bound c v
  have hch : 1 ≤ c.ch ∧ c.ch ≤ 16 := by unfold Good at hg; omega
  refine ⟨by unfold headN; rw [h.hd]; omega, by unfold sI clampI; omega, by unfold fI sI clampI; omega, ?_⟩
  unfold tI fI sI clampI P1
  omega

/-- The tasks behind the range's. -/
def tsN (c : Cfg) (v fr : Int) (ts : List Int) : List Int := if P1 c v fr < room c v then ts ++ [pairI v (P1 c v fr)] else ts

/-- A task that is done alone; no node is to be marked. f: how many steps are left at most; a: the slot that comes next; rg: was the range told? -/
def LS (c : Cfg) (v fr cy : Int) (ts mem : List Int) (s : YS) (f : Nat) (a : Int) (rg : Bool) : Prop :=
  (s.v = v ∧ s.fr = fr ∧ s.cy = cy ∧ s.i = 0) ∧ match s.pc with
  | .head => f = 60 ∧ a = fr ∧ rg = false ∧ Gm c v cy mem ∧ ∃ P S, AInv c 0 mem ts P S
  | .count => f = 50 ∧ a = fr ∧ rg = false ∧ s.at_ = fr ∧ s.p1 = P1 c v fr ∧ P1 c v fr < room c v ∧ Gm c v cy mem ∧ ∃ P S, AInv c 0 mem ts P S
  | .adds => a = fr ∧ rg = true ∧ s.at_ = fr ∧ s.p1 = P1 c v fr ∧ P1 c v fr < room c v ∧ ∃ (mem0 : List Int) (j : Nat) (P S : List Int), j ≤ 9 ∧ f = (10 - j) + 2 * (P1 c v fr - fr).toNat + 2 ∧ Gm c v cy mem0 ∧ AInv c 0 mem0 ts P S ∧ (mem, s.am) = amRun c 0 j (mem0, newAM c 0 (pairI v (P1 c v fr))) ∧ s.am.pc.fin = false
  | .slot => f = 2 * (P1 c v fr - a).toNat + 1 ∧ s.at_ = a ∧ fr ≤ a ∧ a < P1 c v fr ∧ s.p1 = P1 c v fr ∧ rg = decide (P1 c v fr < room c v) ∧ Gm c v cy mem ∧ ∃ P S, AInv c 0 mem (tsN c v fr ts) P S
  | .claims => f = 2 * (P1 c v fr - a).toNat + 2 ∧ s.at_ = a ∧ fr ≤ a ∧ a ≤ P1 c v fr ∧ s.p1 = P1 c v fr ∧ rg = decide (P1 c v fr < room c v) ∧ s.cm = newCM s.w cy ∧ (1 ≤ s.w ∧ s.w ≤ nN c) ∧ Gm c v cy mem ∧ ∃ P S, AInv c 0 mem (tsN c v fr ts) P S
  | .last => f = 1 ∧ a = P1 c v fr ∧ rg = decide (P1 c v fr < room c v) ∧ Gm c v cy mem ∧ ∃ P S, AInv c 0 mem (tsN c v fr ts) P S
  | .done => a = P1 c v fr ∧ rg = decide (P1 c v fr < room c v) ∧ Gm c v cy mem ∧ ∃ P S, AInv c 0 mem (tsN c v fr ts) P S

/-- What is next with the slots that are left. -/
theorem LS.slots {c : Cfg} {v fr cy : Int} {ts mem : List Int} {s : YS} {a : Int} (hb : s.v = v ∧ s.fr = fr ∧ s.cy = cy ∧ s.i = 0) (hp : s.pc = slotsPc s.at_ s.p1) (h1 : s.at_ = a) (h2 : s.p1 = P1 c v fr) (h3 : fr ≤ a) (h4 : a ≤ P1 c v fr) (hg : Gm c v cy mem) (hA : ∃ P S, AInv c 0 mem (tsN c v fr ts) P S) :
    ∃ f, f ≤ 2 * (P1 c v fr - a).toNat + 1 ∧ LS c v fr cy ts mem s f a (decide (P1 c v fr < room c v)) := by
  unfold LS
  rw [hp, h1, h2]
  unfold slotsPc
  by_cases h : a < P1 c v fr
  · rw [if_pos h]
    exact ⟨_, Nat.le_refl _, hb, rfl, rfl, h3, h, rfl, rfl, hg, hA⟩
  · rw [if_neg h]
    exact ⟨1, by omega, hb, rfl, by omega, rfl, hg, hA⟩

end Go.Proofs.YtapdpclgbpgklaaGreat

namespace Go.Proofs.YtapdpclgbpgklaaGreat
open Go.RowKit

theorem amRun_one (c : Cfg) (i : Int) (j : Nat) (x : List Int × AM) : amStep c i (amRun c i j x).1 (amRun c i j x).2 = amRun c i (j + 1) x := rfl

theorem look_done {c : Cfg} {mem : List Int} {w cy : Int} (h : cy ≤ mget mem (pNode c w 2)) : cmStep c mem (newCM w cy) = (mem, ⟨.done, w, cy, mget mem (pNode c w 2), false⟩) := by
  unfold cmStep newCM
  simp only []
  rw [if_pos h]

/-- What a step tells. -/
def Tells (ev : Ev) (c : Cfg) (v fr a a' : Int) (rg rg' : Bool) : Prop :=
  (ev.k = 3 ∧ ev.a = v ∧ ev.b = a ∧ a' = a + 1 ∧ fr ≤ a ∧ a < P1 c v fr ∧ rg' = rg) ∨ (ev.k = 2 ∧ ev.b = P1 c v fr ∧ a' = a ∧ rg = false ∧ rg' = true) ∨ (ev.k ≠ 2 ∧ ev.k ≠ 3 ∧ a' = a ∧ rg' = rg)

theorem LS.step {c : Cfg} {v fr cy : Int} {ts mem : List Int} {s : YS} {f : Nat} {a : Int} {rg : Bool} (hg : Good c) (hv : 1 ≤ v ∧ v ≤ nN c) (hf0 : 0 ≤ fr ∧ fr ≤ room c v) (hs : (ts.length : Int) + 1 ≤ c.dq + manyI c) (h : LS c v fr cy ts mem s f a rg) (hd : s.pc ≠ .done) :
    ∃ f' a' rg', f' < f ∧ LS c v fr cy ts (scStep c mem s).1 (scStep c mem s).2 f' a' rg' ∧ Tells (scStep c mem s).2.ev c v fr a a' rg rg' := by
  have hk : (0 : Int) ≤ 0 ∧ (0 : Int) < c.mks := by unfold Good at hg; omega
  have hr := room_bound c v
  have hP : fr ≤ P1 c v fr ∧ P1 c v fr ≤ 16 := by unfold P1; unfold Good at hg; omega
  have hn0 := node0_bound hg
  obtain ⟨pc, i, v', fr', cy', p0, p1, at_, w0, cm, am, ev⟩ := s
  obtain ⟨⟨e1, e2, e3, e4⟩, h⟩ := h
  simp only at e1 e2 e3 e4 hd
  subst e1 e2 e3 e4
  cases pc
  case done => exact absurd rfl hd
  case head =>
    obtain ⟨rfl, rfl, rfl, hG, hA⟩ := h
    obtain ⟨q1, q2, q3, q4⟩ := piece_is hg hG hf0
    simp only [scStep, q1, q2, q3, q4]
    by_cases hlt : P1 c v' a < room c v'
    · rw [if_pos hlt]
      exact ⟨50, a, false, by omega, ⟨⟨rfl, rfl, rfl, rfl⟩, rfl, rfl, rfl, rfl, rfl, hlt, hG, hA⟩, .inr (.inr ⟨by decide, by decide, rfl, rfl⟩)⟩
    · rw [if_neg hlt]
      obtain ⟨f', hf', hL⟩ := LS.slots (c := c) (v := v') (fr := a) (cy := cy') (ts := ts) (mem := mem) (s := ⟨slotsPc a (P1 c v' a), 0, v', a, cy', a, P1 c v' a, a, w0, cm, am, Ev.zero⟩) (a := a) ⟨rfl, rfl, rfl, rfl⟩ rfl rfl rfl (by omega) hP.1 hG (by unfold tsN; rw [if_neg hlt]; exact hA)
      rw [decide_eq_false hlt] at hL
      exact ⟨f', a, false, by omega, hL, .inr (.inr ⟨by decide, by decide, rfl, rfl⟩)⟩
  case count =>
    obtain ⟨rfl, rfl, rfl, e5, e6, hlt, hG, P, S, hA⟩ := h
    simp only at e5 e6
    subst e5 e6
    simp only [scStep]
    refine ⟨_, at_, true, ?_, ⟨⟨rfl, rfl, rfl, rfl⟩, rfl, rfl, rfl, rfl, hlt, _, 0, P, S, by omega, rfl, hG.same hg hv (fun b hb => mget_other (by omega)), hA.work hg hk _, rfl, newAM_pc hk⟩, .inr (.inl ⟨rfl, rfl, rfl, rfl, rfl⟩)⟩
    omega
  case adds =>
    obtain ⟨rfl, rfl, e5, e6, hlt, mem0, j, P, S, hj, rfl, hG, hA, hrun, hfin⟩ := h
    simp only at e5 e6 hrun hfin
    subst e5 e6
    obtain ⟨K, hK, hb, hend, ⟨P', S', hA'⟩, hfr⟩ := add_ends (pairI v' (P1 c v' at_)) hg hk hA hs
    have e1 : mem = (amRun c 0 j (mem0, newAM c 0 (pairI v' (P1 c v' at_)))).1 := by rw [← hrun]
    have e2 : am = (amRun c 0 j (mem0, newAM c 0 (pairI v' (P1 c v' at_)))).2 := by rw [← hrun]
    have hjK : j ≤ K := by
      rcases Nat.lt_or_ge K j with h | h
      · rw [e2, amRun_upto rfl (afin_iff.1 hend) (show K + 1 ≤ j from h), hend] at hfin
        cases hfin
      · exact h
    have hst : amStep c 0 mem am = amRun c 0 (j + 1) (mem0, newAM c 0 (pairI v' (P1 c v' at_))) := by rw [e1, e2]; rfl
    simp only [scStep, hst]
    cases hf : (amRun c 0 (j + 1) (mem0, newAM c 0 (pairI v' (P1 c v' at_)))).2.pc.fin
    · simp only [Bool.false_eq_true, ↓reduceIte]
      have hjK' : j ≠ K := fun e => by subst e; rw [hend] at hf; cases hf
      exact ⟨_, at_, true, by omega, ⟨⟨rfl, rfl, rfl, rfl⟩, rfl, rfl, rfl, rfl, hlt, mem0, j + 1, P, S, by omega, rfl, hG, hA, rfl, hf⟩, .inr (.inr ⟨by decide, by decide, rfl, rfl⟩)⟩
    · simp only [↓reduceIte]
      have hjK' : j = K := by
        rcases Nat.lt_or_ge j K with h | h
        · rw [hb j h] at hf; cases hf
        · omega
      subst hjK'
      obtain ⟨f', hf', hL⟩ := LS.slots (c := c) (v := v') (fr := at_) (cy := cy') (ts := ts) (mem := (amRun c 0 (j + 1) (mem0, newAM c 0 (pairI v' (P1 c v' at_)))).1) (s := ⟨slotsPc at_ (P1 c v' at_), 0, v', at_, cy', p0, P1 c v' at_, at_, w0, cm, (amRun c 0 (j + 1) (mem0, newAM c 0 (pairI v' (P1 c v' at_)))).2, Ev.zero⟩) (a := at_) ⟨rfl, rfl, rfl, rfl⟩ rfl rfl rfl (by omega) hP.1 (hG.same hg hv (fun b hb => hfr b (.inr hb))) (by unfold tsN; rw [if_pos hlt]; exact ⟨P', S', hA'⟩)
      rw [decide_eq_true hlt] at hL
      exact ⟨f', at_, true, by omega, hL, .inr (.inr ⟨by decide, by decide, rfl, rfl⟩)⟩
  case slot =>
    obtain ⟨rfl, e5, h1, h2, e6, rfl, hG, hA⟩ := h
    simp only at e5 e6
    subst e5 e6
    simp only [scStep]
    by_cases hw : 1 ≤ mget mem (pSlot c v' at_) ∧ mget mem (pSlot c v' at_) ≤ nN c
    · rw [if_pos hw]
      refine ⟨_, at_ + 1, _, ?_, ⟨⟨rfl, rfl, rfl, rfl⟩, rfl, rfl, by omega, by omega, rfl, rfl, rfl, hw, hG, hA⟩, .inl ⟨rfl, rfl, rfl, rfl, h1, h2, rfl⟩⟩
      omega
    · rw [if_neg hw]
      obtain ⟨f', hf', hL⟩ := LS.slots (c := c) (v := v') (fr := fr') (cy := cy') (ts := ts) (mem := mem) (s := ⟨slotsPc (at_ + 1) (P1 c v' fr'), 0, v', fr', cy', p0, P1 c v' fr', at_ + 1, w0, cm, am, ⟨3, 0, v', at_, 0⟩⟩) (a := at_ + 1) ⟨rfl, rfl, rfl, rfl⟩ rfl rfl rfl (by omega) (by omega) hG hA
      exact ⟨f', at_ + 1, _, by omega, hL, .inl ⟨rfl, rfl, rfl, rfl, h1, h2, rfl⟩⟩
  case claims =>
    obtain ⟨rfl, e5, h1, h2, e6, rfl, e7, hw, hG, hA⟩ := h
    simp only at e5 e6 e7 hw
    subst e5 e6 e7
    simp only [scStep, look_done (hG.mks w0 hw.1 hw.2), CPc.fin, Bool.false_eq_true, ↓reduceIte]
    obtain ⟨f', hf', hL⟩ := LS.slots (c := c) (v := v') (fr := fr') (cy := cy') (ts := ts) (mem := mem) (s := ⟨slotsPc at_ (P1 c v' fr'), 0, v', fr', cy', p0, P1 c v' fr', at_, w0, ⟨.done, w0, cy', mget mem (pNode c w0 2), false⟩, am, Ev.zero⟩) (a := at_) ⟨rfl, rfl, rfl, rfl⟩ rfl rfl rfl h1 h2 hG hA
    exact ⟨f', at_, _, by omega, hL, .inr (.inr ⟨by decide, by decide, rfl, rfl⟩)⟩
  case last =>
    obtain ⟨rfl, rfl, rfl, hG, P, S, hA⟩ := h
    simp only [scStep]
    exact ⟨0, _, _, by omega, ⟨⟨rfl, rfl, rfl, rfl⟩, rfl, rfl, hG.same hg hv (fun b hb => mget_other (by omega)), P, S, hA.work hg hk _⟩, .inr (.inr ⟨show (4 : Int) ≠ 2 by decide, show (4 : Int) ≠ 3 by decide, rfl, rfl⟩)⟩

end Go.Proofs.YtapdpclgbpgklaaGreat

namespace Go.Proofs.YtapdpclgbpgklaaGreat
open Go.RowKit

theorem sumI_mem {l : List Int} (h : ∀ x ∈ l, 0 ≤ x) {y : Int} (hy : y ∈ l) : y ≤ sumI l := by
  induction l with
  | nil => cases hy
  | cons x l ih =>
    have h0 := h x (by simp)
    have hl : 0 ≤ sumI l := by
      have := (sumI_bound (l.map fun z => min z 1) 0 1 (fun z hz => by
        obtain ⟨u, hu, rfl⟩ := List.mem_map.1 hz
        have := h u (by simp [hu]); omega)).1
      clear ih hy
      induction l with
      | nil => simp [sumI]
      | cons u l ih2 =>
        have hu := h u (by simp)
        have := ih2 (fun z hz => h z (by simp at hz ⊢; rcases hz with e | e <;> simp [e])) (by
          have := (sumI_bound (l.map fun z => min z 1) 0 1 (fun z hz => by
            obtain ⟨t, ht, rfl⟩ := List.mem_map.1 hz
            have := h t (by simp [ht]); omega)).1
          exact this)
        simp only [sumI, List.foldr_cons] at *; omega
    simp only [sumI, List.foldr_cons] at *
    rcases List.mem_cons.1 hy with e | e
    · omega
    · have := ih (fun z hz => h z (by simp [hz])) e
      omega

/-- There is a packet for each piece. -/
theorem pieces_fit {c : Cfg} {v : Int} (hg : Good c) (hv : 1 ≤ v ∧ v ≤ nN c) (n : Nat) (h : (n : Int) * c.ch < room c v) : (n : Int) + 1 ≤ c.dq + manyI c := by
  have hch : 1 ≤ c.ch ∧ c.ch ≤ 16 := by unfold Good at hg; omega
  have hq : 2 ≤ c.dq ∧ 1 ≤ c.mks ∧ 1 ≤ c.mus := by unfold Good at hg; omega
  have hm : (room c v + c.ch - 1) / c.ch ∈ (rooms c).map fun r => (r + c.ch - 1) / c.ch := by
    refine List.mem_map.2 ⟨room c v, ?_, rfl⟩
    unfold room
    rw [if_pos hv]
    have : (v - 1).toNat < (rooms c).length := by have : (rooms c).length = nN c := rfl; omega
    rw [List.getElem?_eq_getElem this]
    exact List.getElem_mem _
  have hs := sumI_mem (fun x hx => by
    obtain ⟨r, hr, rfl⟩ := List.mem_map.1 hx
    have := rooms_mem c r hr
    exact Int.ediv_nonneg (by omega) (by omega)) hm
  have h1 : (n : Int) + 1 ≤ (room c v + c.ch - 1) / c.ch := by
    rw [Int.le_ediv_iff_mul_le (by omega), Int.add_mul]
    omega
  unfold manyI
  omega

/-- Which slots were seen. -/
def seenL (rm : Nat) (a : Int) : List Value := (List.range rm).map fun (i : Nat) => Value.int .i64 (if (i : Int) < a then 1 else 0)

theorem seenL_len (rm : Nat) (a : Int) : (seenL rm a).length = rm := by simp [seenL]

theorem seenL_get {rm : Nat} {a : Int} {i : Nat} (h : i < rm) : (seenL rm a)[i]? = some (.int .i64 (if (i : Int) < a then 1 else 0)) := by
  simp [seenL, h]

theorem seenL_nil (rm : Nat) : seenL rm 0 = (List.replicate rm (0 : Int)).map (Value.int .i64) := by
  apply List.ext_getElem?
  intro i
  by_cases h : i < rm
  · rw [seenL_get h, if_neg (by omega)]; simp [h]
  · rw [List.getElem?_eq_none (by rw [seenL_len]; omega), List.getElem?_eq_none (by simp; omega)]

theorem seenL_add {rm r : Nat} (h : r < rm) : (seenL rm r).set r (.int .i64 1) = seenL rm ((r : Int) + 1) := by
  apply List.ext_getElem?
  intro i
  by_cases hi : i < rm
  · rw [seenL_get hi, List.getElem?_set]
    by_cases e : r = i
    · subst e; rw [if_pos rfl, if_pos (show (r : Int) < r + 1 by omega)]; simp [seenL_len, h]
    · rw [if_neg e, seenL_get hi]
      by_cases h2 : (i : Int) < r
      · rw [if_pos h2, if_pos (by omega)]
      · rw [if_neg h2, if_neg (by omega)]
  · rw [List.getElem?_eq_none (by simp [seenL_len]; omega), List.getElem?_eq_none (by rw [seenL_len]; omega)]

end Go.Proofs.YtapdpclgbpgklaaGreat

namespace Go.Proofs.YtapdpclgbpgklaaGreat
open Go.RowKit

theorem scStep_fin {c : Cfg} {mem : List Int} {s : YS} (h : s.pc ≠ .done) : (scStep c mem s).2.pc.fin = decide (s.pc = .last) := by
  obtain ⟨pc, i, v', fr', cy', p0, p1, at_, w0, cm, am, ev⟩ := s
  cases pc
  case done => exact absurd rfl h
  case head =>
    simp only [scStep]
    split
    · rfl
    · exact slotsPc_ne.2.2
  case count => rfl
  case adds =>
    simp only [scStep]
    split
    · exact slotsPc_ne.2.2
    · rfl
  case slot =>
    simp only [scStep]
    split
    · rfl
    · exact slotsPc_ne.2.2
  case claims =>
    simp only [scStep]
    split
    · split
      · rfl
      · exact slotsPc_ne.2.2
    · rfl
  case last => rfl

theorem yfin_iff {q : YPc} : q.fin = true ↔ q = .done := by cases q <;> simp [YPc.fin]

theorem LS.atLast {c : Cfg} {v fr cy : Int} {ts mem : List Int} {s : YS} {f : Nat} {a : Int} {rg : Bool} (h : LS c v fr cy ts mem s f a rg) (hp : s.pc = .last) : f = 1 ∧ a = P1 c v fr ∧ rg = decide (P1 c v fr < room c v) := by
  unfold LS at h; rw [hp] at h; exact ⟨h.2.1, h.2.2.1, h.2.2.2.1⟩

theorem LS.atDone {c : Cfg} {v fr cy : Int} {ts mem : List Int} {s : YS} {f : Nat} {a : Int} {rg : Bool} (h : LS c v fr cy ts mem s f a rg) (hp : s.pc = .done) : Gm c v cy mem ∧ ∃ P S, AInv c 0 mem (tsN c v fr ts) P S := by
  unfold LS at h; rw [hp] at h; exact ⟨h.2.2.2.1, h.2.2.2.2⟩

theorem next_piece {c : Cfg} {v fr : Int} {n : Nat} (h : fr = n * c.ch) (hl : P1 c v fr < room c v) : P1 c v fr = ((n + 1 : Nat) : Int) * c.ch := by
  have : P1 c v fr = fr + c.ch := by unfold P1 at hl ⊢; omega
  rw [this, h, Int.natCast_succ, Int.add_mul]; omega

theorem tsN_len {c : Cfg} {v fr : Int} {ts : List Int} {n : Nat} (h : ts.length = n) (hl : P1 c v fr < room c v) : (tsN c v fr ts).length = n + 1 := by
  unfold tsN; rw [if_pos hl]; simp [h]

end Go.Proofs.YtapdpclgbpgklaaGreat

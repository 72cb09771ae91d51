/- A task that is done, and nodes that are marked: what memory says of it. Plain numbers. No program. -/
import Derived.Test.YtapdpclgbpgklaaGreatPkLoc
import Derived.Test.YtapdpclgbpgklaaGreatPkFst
import Derived.Test.YtapdpclgbpgklaaGreatPkL
namespace Go.Proofs.YtapdpclgbpgklaaGreat
open Go.RowKit

/-- Which nodes n slots have marked. -/
def wantN (c : Cfg) (sl was : Int → Int) (cy fr : Int) : Nat → List Int
  | 0 => []
  | n + 1 => if 1 ≤ sl (fr + n) ∧ sl (fr + n) ≤ nN c ∧ was (sl (fr + n)) < cy ∧ sl (fr + n) ∉ wantN c sl was cy fr n then wantN c sl was cy fr n ++ [sl (fr + n)] else wantN c sl was cy fr n

/-- Slots from fr to b were looked at, and L marked. -/
structure Md (c : Cfg) (v fr cy : Int) (sl was : Int → Int) (al : Bool) (mem L : List Int) (b : Int) : Prop where
  len : (mem.length : Int) = allI c
  hd : mget mem (pNode c v 0) = room c v
  slo : ∀ j, 0 ≤ j → j < room c v → mget mem (pSlot c v j) = sl j
  nd : L.Nodup
  rng : ∀ u ∈ L, 1 ≤ u ∧ u ≤ nN c
  mkd : ∀ u ∈ L, cy ≤ mget mem (pNode c u 2)
  cov : ∀ j, fr ≤ j → j < b → 1 ≤ sl j → sl j ≤ nN c → cy ≤ mget mem (pNode c (sl j) 2)
  few : (L.length : Int) ≤ b - fr
  ex : al = true → (∀ u : Int, 1 ≤ u → u ≤ nN c → mget mem (pNode c u 2) = if u ∈ L then cy else was u) ∧ L = wantN c sl was cy fr (b - fr).toNat

theorem pSlot_is {c : Cfg} {v j : Int} (h0 : 0 ≤ j) (h1 : j < room c v) : pSlot c v j = pNode c v (4 + j) := by
  unfold pSlot; rw [if_pos ⟨h0, h1⟩]

theorem pSlot_far {c : Cfg} (hg : Good c) {v j : Int} (hv : 1 ≤ v ∧ v ≤ nN c) (h0 : 0 ≤ j) (h1 : j < room c v) : node0I c ≤ pSlot c v j := by
  rw [pSlot_is h0 h1]
  exact (node_place (c := c) hv.1 hv.2 (by omega) (by omega)).1

section
variable {c : Cfg} {v fr cy : Int} {sl was : Int → Int} {al : Bool} {mem L : List Int} {b : Int}

theorem Md.low {mem' : List Int} (hg : Good c) (hv : 1 ≤ v ∧ v ≤ nN c) (h : Md c v fr cy sl was al mem L b) (hl : mem'.length = mem.length) (hf : ∀ a, node0I c ≤ a → mget mem' a = mget mem a) : Md c v fr cy sl was al mem' L b := by
  have hm : ∀ u : Int, 1 ≤ u → u ≤ nN c → mget mem' (pNode c u 2) = mget mem (pNode c u 2) := fun u u1 u2 => hf _ (pNode_far hg ⟨u1, u2⟩ (by omega) (by omega))
  refine ⟨by rw [hl]; exact h.len, by rw [hf _ (pNode_far hg hv (by omega) (by omega))]; exact h.hd, fun j j0 j1 => by rw [hf _ (pSlot_far hg hv j0 j1)]; exact h.slo j j0 j1, h.nd, h.rng, fun u hu => ?_, fun j j0 j1 j2 j3 => ?_, h.few, fun e => ⟨fun u u1 u2 => ?_, (h.ex e).2⟩⟩
  · have := h.rng u hu
    rw [hm u this.1 this.2]; exact h.mkd u hu
  · rw [hm _ j2 j3]; exact h.cov j j0 j1 j2 j3
  · rw [hm u u1 u2]; exact (h.ex e).1 u u1 u2

theorem Md.put {u : Int} (hg : Good c) (hv : 1 ≤ v ∧ v ≤ nN c) (h : Md c v fr cy sl was al mem L b) (hu : 1 ≤ u ∧ u ≤ nN c) :
    mget (mput mem (pNode c u 2) cy) (pNode c v 0) = room c v ∧ (∀ j, 0 ≤ j → j < room c v → mget (mput mem (pNode c u 2) cy) (pSlot c v j) = sl j) ∧ (∀ t : Int, 1 ≤ t → t ≤ nN c → mget (mput mem (pNode c u 2) cy) (pNode c t 2) = if t = u then cy else mget mem (pNode c t 2)) := by
  have hru := room_bound c u
  have hrv := room_bound c v
  refine ⟨?_, fun j j0 j1 => ?_, fun t t1 t2 => ?_⟩
  · rw [mget_other (node_ne hv hu (by omega) (by omega) (.inr (by omega)))]; exact h.hd
  · rw [pSlot_is j0 j1, mget_other (node_ne hv hu (by omega) (by omega) (.inr (by omega))), ← pSlot_is j0 j1]; exact h.slo j j0 j1
  · by_cases e : t = u
    · subst e
      rw [if_pos rfl]
      have hp := mark_place hg hu
      have hA := allI_bound hg
      have hn := node0_bound hg
      exact mget_put (by have := h.len; omega)
    · rw [if_neg e, mget_other (mark_ne ⟨t1, t2⟩ hu e)]

/-- Another one marks a node. -/
theorem Md.other {u : Int} (hg : Good c) (hv : 1 ≤ v ∧ v ≤ nN c) (h : Md c v fr cy sl was false mem L b) (hu : 1 ≤ u ∧ u ≤ nN c) : Md c v fr cy sl was false (mput mem (pNode c u 2) cy) L b := by
  obtain ⟨h1, h2, h3⟩ := h.put hg hv hu
  refine ⟨by rw [mput_len]; exact h.len, h1, h2, h.nd, h.rng, fun t ht => ?_, fun j j0 j1 j2 j3 => ?_, h.few, fun e => by cases e⟩
  · have := h.rng t ht
    rw [h3 t this.1 this.2]
    split
    · omega
    · exact h.mkd t ht
  · rw [h3 _ j2 j3]
    split
    · omega
    · exact h.cov j j0 j1 j2 j3

/-- The next slot's node is marked. -/
theorem Md.win (hg : Good c) (hv : 1 ≤ v ∧ v ≤ nN c) (h : Md c v fr cy sl was al mem L b) (hb : fr ≤ b) (hu : 1 ≤ sl b ∧ sl b ≤ nN c) (hm : mget mem (pNode c (sl b) 2) < cy) : Md c v fr cy sl was al (mput mem (pNode c (sl b) 2) cy) (L ++ [sl b]) (b + 1) := by
  obtain ⟨h1, h2, h3⟩ := h.put hg hv hu
  have hno : sl b ∉ L := fun e => by have := h.mkd _ e; omega
  refine ⟨by rw [mput_len]; exact h.len, h1, h2, ?_, fun t ht => ?_, fun t ht => ?_, fun j j0 j1 j2 j3 => ?_, by have := h.few; simp; omega, fun e => ⟨fun t t1 t2 => ?_, ?_⟩⟩
  · rw [List.nodup_append]
    exact ⟨h.nd, by simp, fun a ha b' hb' => by simp at hb'; subst hb'; intro e; subst e; exact hno ha⟩
  · rcases List.mem_append.1 ht with e | e
    · exact h.rng t e
    · simp at e; subst e; exact hu
  · have hr : 1 ≤ t ∧ t ≤ nN c := by
      rcases List.mem_append.1 ht with e | e
      · exact h.rng t e
      · simp at e; subst e; exact hu
    rw [h3 t hr.1 hr.2]
    split
    · omega
    · next hne =>
      rcases List.mem_append.1 ht with e | e
      · exact h.mkd t e
      · simp at e; exact absurd e hne
  · rw [h3 _ j2 j3]
    split
    · omega
    · next hne =>
      refine h.cov j j0 ?_ j2 j3
      rcases Int.lt_or_le j b with g | g
      · exact g
      · have : j = b := by omega
        subst this; exact absurd rfl hne
  · obtain ⟨e1, e2⟩ := h.ex e
    rw [h3 t t1 t2]
    by_cases g : t = sl b
    · rw [if_pos g, if_pos (by simp [g])]
    · rw [if_neg g, e1 t t1 t2]
      by_cases g2 : t ∈ L
      · rw [if_pos g2, if_pos (by simp [g2])]
      · rw [if_neg g2, if_neg (by simp [g, g2])]
  · obtain ⟨e1, e2⟩ := h.ex e
    have hw : was (sl b) < cy := by
      have := e1 _ hu.1 hu.2
      rw [if_neg hno] at this
      omega
    rw [show (b + 1 - fr).toNat = (b - fr).toNat + 1 from by omega, wantN, show fr + ((b - fr).toNat : Int) = b from by omega, ← e2, if_pos ⟨hu.1, hu.2, hw, hno⟩]

/-- The next slot has no node, or one that is marked. -/
theorem Md.skip (h : Md c v fr cy sl was al mem L b) (hb : fr ≤ b) (hm : 1 ≤ sl b → sl b ≤ nN c → cy ≤ mget mem (pNode c (sl b) 2)) : Md c v fr cy sl was al mem L (b + 1) := by
  refine ⟨h.len, h.hd, h.slo, h.nd, h.rng, h.mkd, fun j j0 j1 j2 j3 => ?_, by have := h.few; omega, fun e => ⟨(h.ex e).1, ?_⟩⟩
  · rcases Int.lt_or_le j b with g | g
    · exact h.cov j j0 g j2 j3
    · have : j = b := by omega
      subst this; exact hm j2 j3
  · obtain ⟨e1, e2⟩ := h.ex e
    rw [show (b + 1 - fr).toNat = (b - fr).toNat + 1 from by omega, wantN, show fr + ((b - fr).toNat : Int) = b from by omega, ← e2, if_neg]
    rintro ⟨g1, g2, g3, g4⟩
    have := hm g1 g2
    rw [e1 _ g1 g2, if_neg g4] at this
    omega

end

def rgI (rg : Bool) : Int := if rg then 1 else 0

/-- The tasks, as far as they count: how many, and the work. -/
def Tk (c : Cfg) (mem : List Int) (n : Int) : Prop := ∃ ts P S, (ts.length : Int) = n ∧ AInv c 0 mem ts P S

theorem Tk.low {c : Cfg} {mem mem' : List Int} {n : Int} (hg : Good c) (h : Tk c mem n) (hl : mem'.length = mem.length) (hf : ∀ a, a < node0I c → a ≠ 1 → mget mem' a = mget mem a) : Tk c mem' n := by
  obtain ⟨ts, P, S, e, hA⟩ := h
  have hk : (0 : Int) ≤ 0 ∧ (0 : Int) < c.mks := by unfold Good at hg; omega
  exact ⟨ts, P, S, e, hA.frame hg hk hl hf⟩

/-- A task that is done; nodes are marked. f: how many steps are left at most; a: the slot that comes next; rg: was the range told? L: what was marked. -/
def LM (c : Cfg) (v fr cy : Int) (sl was : Int → Int) (al : Bool) (mem : List Int) (s : YS) (f : Nat) (a : Int) (rg : Bool) (L : List Int) : Prop :=
  (s.v = v ∧ s.fr = fr ∧ s.cy = cy ∧ s.i = 0) ∧ match s.pc with
  | .head => f = 300 ∧ a = fr ∧ rg = false ∧ L = [] ∧ Md c v fr cy sl was al mem L fr ∧ mget mem 1 = 0 ∧ Tk c mem 0
  | .count => f = 290 ∧ a = fr ∧ rg = false ∧ L = [] ∧ s.at_ = fr ∧ s.p1 = P1 c v fr ∧ P1 c v fr < room c v ∧ Md c v fr cy sl was al mem L fr ∧ mget mem 1 = 0 ∧ Tk c mem 0
  | .adds => s.at_ = a ∧ fr ≤ a ∧ a ≤ P1 c v fr ∧ s.p1 = P1 c v fr ∧ rg = decide (P1 c v fr < room c v) ∧ Md c v fr cy sl was al mem L a ∧ mget mem 1 = rgI rg + L.length ∧ s.am.pc.fin = false ∧
      ∃ (mem0 m' ts P S : List Int) (j : Nat) (x : Int), j ≤ 9 ∧ f = 14 * (P1 c v fr - a).toNat + (10 - j) + 1 ∧ (ts.length : Int) + 1 = rgI rg + L.length ∧ AInv c 0 mem0 ts P S ∧ (m', s.am) = amRun c 0 j (mem0, newAM c 0 x) ∧ Ag (node0I c) m' mem
  | .slot => f = 14 * (P1 c v fr - a).toNat + 1 ∧ s.at_ = a ∧ fr ≤ a ∧ a < P1 c v fr ∧ s.p1 = P1 c v fr ∧ rg = decide (P1 c v fr < room c v) ∧ Md c v fr cy sl was al mem L a ∧ mget mem 1 = rgI rg + L.length ∧ Tk c mem (rgI rg + L.length)
  | .claims => s.at_ = a ∧ fr ≤ a - 1 ∧ a ≤ P1 c v fr ∧ s.p1 = P1 c v fr ∧ rg = decide (P1 c v fr < room c v) ∧ s.w = sl (a - 1) ∧ (1 ≤ s.w ∧ s.w ≤ nN c) ∧ Md c v fr cy sl was al mem L (a - 1) ∧ s.cm.v = s.w ∧ s.cm.cycle = cy ∧ s.cm.won = false ∧ Tk c mem (rgI rg + L.length) ∧
      match s.cm.pc with
      | .look => f = 14 * (P1 c v fr - a).toNat + 14 ∧ mget mem 1 = rgI rg + L.length
      | .count => f = 14 * (P1 c v fr - a).toNat + 13 ∧ mget mem 1 = rgI rg + L.length ∧ s.cm.k < cy ∧ (mget mem (pNode c s.w 2) = s.cm.k ∨ (al = false ∧ cy ≤ mget mem (pNode c s.w 2)))
      | .swap => f = 14 * (P1 c v fr - a).toNat + 12 ∧ mget mem 1 = rgI rg + L.length + 1 ∧ s.cm.k < cy ∧ (mget mem (pNode c s.w 2) = s.cm.k ∨ (al = false ∧ cy ≤ mget mem (pNode c s.w 2)))
      | .back => f = 14 * (P1 c v fr - a).toNat + 11 ∧ mget mem 1 = rgI rg + L.length + 1 ∧ cy ≤ mget mem (pNode c s.w 2)
      | .done => False
  | .last => f = 1 ∧ a = P1 c v fr ∧ rg = decide (P1 c v fr < room c v) ∧ Md c v fr cy sl was al mem L a ∧ mget mem 1 = rgI rg + L.length
  | .done => a = P1 c v fr ∧ rg = decide (P1 c v fr < room c v) ∧ Md c v fr cy sl was al mem L a ∧ mget mem 1 = addI (rgI rg + L.length) 18446744073709551615

/-- What is next with the slots that are left. -/
theorem LM.slots {c : Cfg} {v fr cy : Int} {sl was : Int → Int} {al : Bool} {mem L : List Int} {s : YS} {a : Int} (hb : s.v = v ∧ s.fr = fr ∧ s.cy = cy ∧ s.i = 0) (hp : s.pc = slotsPc s.at_ s.p1) (h1 : s.at_ = a) (h2 : s.p1 = P1 c v fr) (h3 : fr ≤ a) (h4 : a ≤ P1 c v fr) (hm : Md c v fr cy sl was al mem L a) (hw : mget mem 1 = rgI (decide (P1 c v fr < room c v)) + L.length) (hT : Tk c mem (rgI (decide (P1 c v fr < room c v)) + L.length)) :
    ∃ f, f ≤ 14 * (P1 c v fr - a).toNat + 1 ∧ LM c v fr cy sl was al mem s f a (decide (P1 c v fr < room c v)) L := by
  unfold LM
  rw [hp, h1, h2]
  unfold slotsPc
  by_cases h : a < P1 c v fr
  · rw [if_pos h]
    exact ⟨_, Nat.le_refl _, hb, rfl, rfl, h3, h, rfl, rfl, hm, hw, hT⟩
  · rw [if_neg h]
    exact ⟨1, by omega, hb, rfl, by omega, rfl, hm, hw⟩

/-- Another one marks a node. -/
theorem LM.other {c : Cfg} {v fr cy : Int} {sl was : Int → Int} {mem L : List Int} {s : YS} {f : Nat} {a u : Int} {rg : Bool} (hg : Good c) (hv : 1 ≤ v ∧ v ≤ nN c) (h : LM c v fr cy sl was false mem s f a rg L) (hu : 1 ≤ u ∧ u ≤ nN c) : LM c v fr cy sl was false (mput mem (pNode c u 2) cy) s f a rg L := by
  have hp := mark_place hg hu
  have hn := node0_bound hg
  have h1 : mget (mput mem (pNode c u 2) cy) 1 = mget mem 1 := mget_other (by omega)
  have hT : ∀ n, Tk c mem n → Tk c (mput mem (pNode c u 2) cy) n := fun n t => t.low hg (mput_len _ _ _) (fun a ha _ => mget_other (by omega))
  obtain ⟨hb, h⟩ := h
  refine ⟨hb, ?_⟩
  cases hpc : s.pc <;> rw [hpc] at h <;> simp only [h1] at h ⊢
  case done => exact ⟨h.1, h.2.1, h.2.2.1.other hg hv hu, h.2.2.2⟩
  case head => exact ⟨h.1, h.2.1, h.2.2.1, h.2.2.2.1, h.2.2.2.2.1.other hg hv hu, h.2.2.2.2.2.1, hT _ h.2.2.2.2.2.2⟩
  case count =>
    obtain ⟨g1, g2, g3, g4, g5, g6, g7, g8, g9, g10⟩ := h
    exact ⟨g1, g2, g3, g4, g5, g6, g7, g8.other hg hv hu, g9, hT _ g10⟩
  case adds =>
    obtain ⟨g1, g2, g3, g4, g5, g6, g7, g8, mem0, m', ts, P, S, j, x, k1, k2, k3, k4, k5, k6⟩ := h
    exact ⟨g1, g2, g3, g4, g5, g6.other hg hv hu, g7, g8, mem0, m', ts, P, S, j, x, k1, k2, k3, k4, k5, k6.far hp.1 _⟩
  case slot =>
    obtain ⟨g1, g2, g3, g4, g5, g6, g7, g8, g9⟩ := h
    exact ⟨g1, g2, g3, g4, g5, g6, g7.other hg hv hu, g8, hT _ g9⟩
  case claims =>
    obtain ⟨g1, g2, g3, g4, g5, g6, g7, g8, g9, g10, g11, g12, g13⟩ := h
    obtain ⟨_, _, hm⟩ := g8.put hg hv hu
    have hmw := hm s.w g7.1 g7.2
    refine ⟨g1, g2, g3, g4, g5, g6, g7, g8.other hg hv hu, g9, g10, g11, hT _ g12, ?_⟩
    cases hcp : s.cm.pc <;> rw [hcp] at g13 <;> simp only at g13 ⊢
    case look => exact g13
    case count =>
      refine ⟨g13.1, g13.2.1, g13.2.2.1, ?_⟩
      rw [hmw]
      split
      · exact .inr ⟨by first | rfl | trivial, by omega⟩
      · exact g13.2.2.2
    case swap =>
      refine ⟨g13.1, g13.2.1, g13.2.2.1, ?_⟩
      rw [hmw]
      split
      · exact .inr ⟨by first | rfl | trivial, by omega⟩
      · exact g13.2.2.2
    case back =>
      refine ⟨g13.1, g13.2.1, ?_⟩
      rw [hmw]
      split
      · omega
      · exact g13.2.2
  case last =>
    obtain ⟨g1, g2, g3, g4, g5⟩ := h
    exact ⟨g1, g2, g3, g4.other hg hv hu, g5⟩

end Go.Proofs.YtapdpclgbpgklaaGreat

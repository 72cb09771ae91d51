/- Alone: which nodes are to be marked, how many. Plain numbers. No program. -/
import Derived.Test.YtapdpclgbpgklaaGreatPkMarked14
namespace Go.Proofs.YtapdpclgbpgklaaGreat
open Go.RowKit

theorem wantN_len (c : Cfg) (sl was : Int → Int) (cy fr : Int) (n : Nat) : (wantN c sl was cy fr n).length ≤ n := by
  induction n with
  | zero => simp [wantN]
  | succ n ih =>
    unfold wantN
    split
    · simp; omega
    · omega

theorem wantN_no {c : Cfg} {sl was : Int → Int} {cy fr : Int} {n : Nat} (h : ¬ (1 ≤ sl (fr + n) ∧ sl (fr + n) ≤ nN c ∧ was (sl (fr + n)) < cy ∧ sl (fr + n) ∉ wantN c sl was cy fr n)) : wantN c sl was cy fr (n + 1) = wantN c sl was cy fr n := by
  rw [wantN, if_neg h]

theorem wantN_yes {c : Cfg} {sl was : Int → Int} {cy fr : Int} {n : Nat} (h : 1 ≤ sl (fr + n) ∧ sl (fr + n) ≤ nN c ∧ was (sl (fr + n)) < cy ∧ sl (fr + n) ∉ wantN c sl was cy fr n) : wantN c sl was cy fr (n + 1) = wantN c sl was cy fr n ++ [sl (fr + n)] := by
  rw [wantN, if_pos h]

theorem mem_take_next {l : List Int} {q : Nat} (h : q < l.length) (t : Int) : t ∈ l.take (q + 1) ↔ t ∈ l.take q ∨ l[q] = t := by
  rw [List.take_add_one, List.getElem?_eq_getElem h, List.mem_append]
  simp [eq_comm]

theorem wantN_mem {c : Cfg} {sl was : Int → Int} {cy fr : Int} {n : Nat} : ∀ u ∈ wantN c sl was cy fr n, was u < cy := by
  induction n with
  | zero => simp [wantN]
  | succ n ih =>
    unfold wantN
    split
    · next h =>
      intro u hu
      rcases List.mem_append.1 hu with e | e
      · exact ih u e
      · simp at e; subst e; exact h.2.2.1
    · exact ih

/-- How many of L lie ahead of u. -/
def cntL (L : List Int) (u : Int) : Nat := (L.filter fun y => decide (y < u)).length

theorem cntL_next {L : List Int} (hd : L.Nodup) (u : Int) : cntL L (u + 1) = cntL L u + if u ∈ L then 1 else 0 := by
  unfold cntL
  induction L with
  | nil => simp
  | cons y L ih =>
    rw [List.nodup_cons] at hd
    have ih := ih hd.2
    by_cases e : y = u
    · subst e
      have h1 : y ∉ L := hd.1
      rw [if_neg h1] at ih
      rw [List.filter_cons_of_pos (by simp; omega), List.filter_cons_of_neg (by simp), if_pos (by simp), List.length_cons, ih]
    · have h2 : (u ∈ y :: L) ↔ u ∈ L := by simp [Ne.symm e]
      by_cases h3 : y < u
      · rw [List.filter_cons_of_pos (by simp; omega), List.filter_cons_of_pos (by simpa using h3), List.length_cons, List.length_cons, ih]
        simp only [h2]; omega
      · rw [List.filter_cons_of_neg (by simp; omega), List.filter_cons_of_neg (by simpa using h3), ih]
        simp only [h2]

theorem cntL_none {L : List Int} {u : Int} (h : ∀ y ∈ L, u ≤ y) : cntL L u = 0 := by
  unfold cntL
  rw [List.length_eq_zero_iff, List.filter_eq_nil_iff]
  intro y hy
  have := h y hy
  simp; omega

theorem cntL_all {L : List Int} {u : Int} (h : ∀ y ∈ L, y < u) : cntL L u = L.length := by
  unfold cntL
  rw [List.filter_eq_self.2 (fun y hy => by simpa using h y hy)]

theorem Chg.cell {S : Nat → Prop} {w w' : World} (h : Chg S w w') {a : Addr} (hn : ¬ S a.block) (hl : a.block < w.heap.size) : w'.cell? a = w.cell? a := by
  simp only [World.cell?, h.block _ hl hn]

theorem mget_nat {m : List Int} {i : Nat} (h : i < m.length) : mget m (i : Int) = m[i] := by
  unfold mget
  rw [if_pos (by omega), Int.toNat_natCast, List.getElem?_eq_getElem h]; rfl

theorem mark_put_low {c : Cfg} {mem : List Int} {u x a : Int} (hg : Good c) (ha : a < node0I c) : mget (mput mem (pNode c u 2) x) a = mget mem a := by
  by_cases h : 1 ≤ u ∧ u ≤ nN c
  · have := mark_place hg h
    exact mget_other (by omega)
  · have : pNode c u 2 = -1 := by unfold pNode; rw [if_neg h]
    rw [this]; unfold mput; rw [if_neg (by omega)]

end Go.Proofs.YtapdpclgbpgklaaGreat

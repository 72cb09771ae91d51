/- A slice that grows behind and shrinks in front, and one that shrinks behind. Nothing of the program's own. -/
import Derived.Test.YtgfcdjedijloeaaHeld
namespace Go.Proofs.Ytgfcdjedijloeaa
open Go Go.RowKit

/-- A row of one-cell elements in a block of the call's own, from some place on. -/
def QRow (w : World) (base : Nat) (e : TypeId) (v : Value) (xs : List Value) : Prop :=
  (v = .slice none 0 0 ∧ xs = []) ∨ ∃ g off cap cur, v = .slice (some ⟨g, off, none⟩) xs.length cap ∧ base ≤ g ∧ w.heap[g]? = some (.cells cur e (0, 0)) ∧ xs.length ≤ cap ∧ cap ≤ maxLen ∧ off + cap ≤ cur.size ∧ (cur.toList.drop off).take xs.length = xs

theorem QRow.nil (w : World) (base : Nat) (e : TypeId) : QRow w base e (.slice none 0 0) [] := .inl ⟨rfl, rfl⟩

theorem QRow.chg {S : Nat → Prop} {w w' : World} {base : Nat} {e : TypeId} {v : Value} {xs : List Value} (h : QRow w base e v xs) (k : Chg S w w') (hS : ∀ g, v.ownBlock = some g → ¬ S g) : QRow w' base e v xs := by
  rcases h with h0 | ⟨g, off, cap, cur, rfl, hb, hh, hr⟩
  · exact .inl h0
  · exact .inr ⟨g, off, cap, cur, rfl, hb, by rw [k.block g (lt_of_block hh) (hS g rfl)]; exact hh, hr⟩

theorem QRow.base {w : World} {base : Nat} {e : TypeId} {v : Value} {xs : List Value} (h : QRow w base e v xs) : ∀ g, v.ownBlock = some g → base ≤ g ∧ g < w.heap.size := by
  rcases h with ⟨rfl, _⟩ | ⟨g, off, cap, cur, rfl, hb, hh, hr⟩
  · intro g hg; cases hg
  · intro g' hg; simp [Value.ownBlock] at hg; subst hg; exact ⟨hb, lt_of_block hh⟩

theorem QRow.form {w : World} {base : Nat} {e : TypeId} {v : Value} {xs : List Value} (h : QRow w base e v xs) : ∃ ao cap, v = .slice ao xs.length cap := by
  rcases h with ⟨rfl, rfl⟩ | ⟨g, off, cap, cur, rfl, _⟩
  · exact ⟨none, 0, rfl⟩
  · exact ⟨_, _, rfl⟩

theorem drop_take_get {l : List Value} {off n : Nat} {xs : List Value} (h : (l.drop off).take n = xs) {j : Nat} {u : Value} (hu : xs[j]? = some u) : l[off + j]? = some u := by
  rw [← h, List.getElem?_take] at hu
  split at hu
  · rw [List.getElem?_drop] at hu; exact hu
  · cases hu

/-- The first one. -/
theorem QRow.first {w : World} {base : Nat} {e : TypeId} {v : Value} {x : Value} {xs : List Value} (h : QRow w base e v (x :: xs)) :
    ∃ g off cap, v = .slice (some ⟨g, off, none⟩) (xs.length + 1) cap ∧ xs.length + 1 ≤ cap ∧ w.cell? ⟨g, off, none⟩ = some x ∧
      QRow w base e (.slice (if cap = 1 then some ⟨g, off, none⟩ else some ⟨g, off + 1, none⟩) xs.length (cap - 1)) xs := by
  rcases h with ⟨_, h0⟩ | ⟨g, off, cap, cur, rfl, hb, hh, h1, h2, h3, h4⟩
  · cases h0
  · have hx : cur.toList[off]? = some x := by have := drop_take_get h4 (j := 0) (u := x) (by simp); simpa using this
    have ht : (cur.toList.drop (off + 1)).take xs.length = xs := by
      have := congrArg List.tail h4
      rw [List.length_cons] at this
      cases hd : cur.toList.drop off with
      | nil => rw [hd] at h4; simp at h4
      | cons y ys =>
        have h6 : cur.toList.drop (off + 1) = ys := by rw [← List.drop_drop, hd]; rfl
        rw [hd] at h4
        simp at h4
        rw [h6]; exact h4.2
    simp only [List.length_cons] at h1
    refine ⟨g, off, cap, rfl, h1, ?_, ?_⟩
    · rw [cell_of_row w g off _ _ _ hh, ← Array.getElem?_toList]; exact hx
    · by_cases hc : cap = 1
      · rw [if_pos hc]
        have h0 : xs = [] := by cases xs with
          | nil => rfl
          | cons => simp at h1; omega
        subst h0
        exact .inr ⟨g, off, _, cur, rfl, hb, hh, by simp, by omega, by omega, by simp⟩
      · rw [if_neg hc]
        exact .inr ⟨g, off + 1, _, cur, rfl, hb, hh, by omega, by omega, by omega, ht⟩

theorem take_snoc (xs : List Value) (u : Value) (R : List Value) : (xs ++ u :: R).take (xs.length + 1) = xs ++ [u] := by
  rw [show xs ++ u :: R = (xs ++ [u]) ++ R from by simp]
  exact List.take_left' (by simp)

theorem run_append_queue {P : Program} (w : World) (base : Nat) (t ty e : TypeId) (i : TypeInfo) (z : Value) (bytes : Nat) (ht : P.underlying t = some (.slice e)) (hi : P.info? e = some i) (hz : i.zero = some z)
    (hsize : i.size = 1) (hby : i.bytes = bytes) (hzs : z.cells.size = 1)
    (v : Value) (xs : List Value) (hown : QRow w base e v xs) (a : Addr) (c : Nat) (u : Value) (hu : ∀ j x, [u][j]? = some x → w.cell? (a.add j) = some x) (h1 : u.oneCell' = true)
    (h63 : xs.length + 1 ≤ maxLen) (hbytes : (xs.length + 1) * bytes ≤ 140737488355328) (hbase : base ≤ w.heap.size) :
    ∃ v' w', (Builtin.append_ #[t, t] ty #[v, .slice (some a) 1 c]).run P w = .ok v' w' ∧ QRow w' base e v' (xs ++ [u]) ∧ w.grownBy w' v.ownBlock := by
  subst hby
  have hsmall : xs.length + 1 ≤ 9223372036854775807 := by simp only [maxLen] at h63; omega
  have hl1 : [u].length = 1 * i.size := by rw [hsize]; rfl
  have grown : ∀ (old : Nat), ∀ (row : Option Nat),
      QRow (w.drew.alloc (.cells (xs.toArray ++ [u].toArray ++ Builtin.zeroCells z.cells (grownCap w (xs.length + 1) old e - (xs.length + 1))) e)) base e
        (.slice (some ⟨w.heap.size, 0, none⟩) (xs.length + 1) (grownCap w (xs.length + 1) old e)) (xs ++ [u]) ∧
      w.grownBy (w.drew.alloc (.cells (xs.toArray ++ [u].toArray ++ Builtin.zeroCells z.cells (grownCap w (xs.length + 1) old e - (xs.length + 1))) e)) row := by
    intro old row
    have hge := grownCap_ge w (xs.length + 1) old e
    have hcm : grownCap w (xs.length + 1) old e ≤ maxLen := grownCap_le_maxLen w (xs.length + 1) old e h63
    refine ⟨.inr ⟨w.heap.size, 0, _, _, by simp, hbase, heap_alloc_new w.drew _, by simpa using hge, hcm, ?_, ?_⟩, ⟨rfl, rfl, rfl, by simp, fun k hk _ => heap_alloc_old w.drew _ hk⟩⟩
    · simp only [Array.size_append, List.size_toArray, size_zeroCells, hzs, List.length_cons, List.length_nil]
      omega
    · simpa using take_snoc xs u _
  rcases hown with ⟨rfl, rfl⟩ | ⟨g, off, cap, cur, rfl, hbg, hg, hnc, hcm, hcs, htake⟩
  · have hr := run_append_nil (P := P) w t ty e i z ht hi hz a 1 c [u] hl1 hu (by omega) (by omega) (by have hb := hbytes; simp only [List.length_nil, Nat.zero_add] at hb; omega)
    have hgr := grown 0 (Value.ownBlock (.slice none 0 0))
    simp only [List.length_nil, Nat.zero_add, List.nil_append, Array.empty_append] at hgr ⊢
    exact ⟨_, _, hr, hgr.1, hgr.2⟩
  · by_cases hroom : xs.length + 1 ≤ cap
    · have hf := run_firstCells_some (P := P) w i.size 1 a 1 c [u] hl1 hu
      have hst := run_storeCells_at P g (off + xs.length) e [u] 0 cur w hg (by simp; omega) (by simpa using h1)
      simp only [Nat.add_zero] at hst
      have hr : (Builtin.append_ #[t, t] ty #[.slice (some ⟨g, off, none⟩) xs.length cap, .slice (some a) 1 c]).run P w =
          .ok (.slice (some ⟨g, off, none⟩) (xs.length + 1) cap) (w.setRow g (cur.toList.take (off + xs.length) ++ [u] ++ cur.toList.drop (off + xs.length + [u].length)).toArray) := by
        simp [Builtin.append_, run_underlying ht, sizeOf, typeInfo, hi, hsize, Builtin.lenOf, hroom, Addr.add_lit, hst]
        rw [hsize] at hf
        rw [hf]
        simp [Result.andThen, hst]
      refine ⟨_, _, hr, .inr ⟨g, off, cap, _, by simp, hbg, setRow_heap w g cur _ e _ hg, by simpa using hroom, hcm, ?_, ?_⟩, ⟨rfl, rfl, rfl, by simp, fun k _ hk => setRow_other w g k _ (fun e => hk (by simp [Value.ownBlock, e]))⟩⟩
      · simp only [List.size_toArray, List.length_append, List.length_take, List.length_drop, Array.length_toList, List.length_cons, List.length_nil]
        omega
      · have hlt : off + xs.length < cur.size := by omega
        have h5 : (cur.toList.take (off + xs.length)).drop off = xs := by
          rw [List.drop_take]
          rw [show off + xs.length - off = xs.length from by omega]
          exact htake
        rw [List.append_assoc, List.drop_append_of_le_length (by simp; omega), h5]
        simpa using take_snoc xs u _
    · have holds : ∀ j u, xs[j]? = some u → w.cell? ((⟨g, off, none⟩ : Addr).add j) = some u := fun j u hu => by
        rw [Addr.add_lit, cell_of_row w g (off + j) _ _ _ hg, ← Array.getElem?_toList]
        exact drop_take_get htake hu
      have hr := run_append_grow (P := P) w t ty e i z ht hi hz ⟨g, off, none⟩ xs.length cap xs (by rw [hsize]; omega) holds a 1 c [u] hl1 hu (by omega) (by omega) (growslice_fits (by omega) hbytes)
      have hgr := grown cap (Value.ownBlock (.slice (some ⟨g, off, none⟩) xs.length cap))
      exact ⟨_, _, hr, hgr.1, hgr.2⟩

/-- A builtin at the list of a plain region's operations, by its run. -/
theorem wpList_append_run {P : Program} {w : World} {ops : Array Oper} {rest : List Oper} {o : Oper} {a : Act} {Q : Exit → Act → World → Prop} (hgd : o.guard = none) (s x : Operand) (t : TypeId)
    (ho : o.op = .call { callee := .builtin .append, args := #[s, x], argTypes := #[t, t] }) (v y : Value) (hs : a.eval s = v) (hx : a.eval x = y) (v' : Value) (w' : World)
    (hr : (Builtin.append_ #[t, t] o.type #[v, y]).run P w = .ok v' w') (h : wpList P ops Q rest (a.put o.dst v') w') : wpList P ops Q (o :: rest) a w :=
  wpList_plain hgd fun _ hK => by
    unfold Oper.wp execOp
    simp only [ho, resolve, invoke, builtin, Sem.run_bind, Sem.run_pure, Result.andThen_ok, List.map_toArray, List.map_cons, List.map_nil, hs, hx, hr]
    exact hK _ _ h

/-- The last one of a row is left out. -/
theorem ownsRow_pop {w : World} {base : Nat} {e : TypeId} {g n cap : Nat} {xs : List Value} {x : Value} (h : w.ownsRow base e 1 (.slice (some ⟨g, 0, none⟩) (n + 1) cap) (n + 1) (xs ++ [x])) : w.ownsRow base e 1 (.slice (some ⟨g, 0, none⟩) n cap) n xs := by
  have hl : xs.length = n := by have := h.1; simp at this; omega
  refine ⟨by omega, ?_⟩
  rcases h.2 with ⟨h0, _⟩ | ⟨g', cap', cur, hv, hb, hh, h1, h2, h3, h4⟩
  · cases h0
  · simp at hv
    obtain ⟨rfl, rfl⟩ := hv
    refine .inr ⟨g, cap, cur, rfl, hb, hh, by omega, h2, h3, ?_⟩
    simp only [Nat.mul_one] at h4 ⊢
    have := congrArg (List.take n) h4
    rw [List.take_take, show min n (n + 1) = n from by omega] at this
    rw [this, List.take_append_of_le_length (by omega), List.take_of_length_le (by omega)]

end Go.Proofs.Ytgfcdjedijloeaa

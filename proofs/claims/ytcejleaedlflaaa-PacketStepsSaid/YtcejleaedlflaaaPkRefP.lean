/- The document's map: all things in their order, and where each stands: plain numbers. No program. -/
import Derived.Test.YtcejleaedlflaaaPkA
namespace Go.Proofs.Ytcejleaedlflaaa
open Go.RowKit

/-- A thing: its kind, and its numbers. -/
structure T3 where
  k : Int
  a : Int
  b : Int
deriving DecidableEq

/-- Where a thing stands in a list that begins at n; -1: there is none such. -/
def idxT : List T3 → T3 → Nat → Int
  | [], _, _ => -1
  | x :: L, t, n => if x = t then n else idxT L t (n + 1)

theorem idxT_none {L : List T3} {t : T3} (h : t ∉ L) (n : Nat) : idxT L t n = -1 := by
  induction L generalizing n with
  | nil => rfl
  | cons x L ih =>
    rw [idxT, if_neg (fun e => h (by rw [e]; simp)), ih (fun hm => h (by simp [hm]))]

theorem idxT_append (A B : List T3) (t : T3) (n : Nat) : idxT (A ++ B) t n = if t ∈ A then idxT A t n else idxT B t (n + A.length) := by
  induction A generalizing n with
  | nil => simp
  | cons x A ih =>
    rw [List.cons_append, idxT, idxT]
    by_cases e : x = t
    · rw [if_pos e, if_pos e, if_pos (by rw [e]; simp)]
    · rw [if_neg e, if_neg e, ih]
      by_cases h : t ∈ A
      · rw [if_pos h, if_pos (by simp [h])]
      · rw [if_neg h, if_neg (by simp [h, Ne.symm e]), List.length_cons]
        congr 1; omega

theorem idxT_left {A : List T3} (B : List T3) {t : T3} (h : t ∈ A) (n : Nat) : idxT (A ++ B) t n = idxT A t n := by rw [idxT_append, if_pos h]

theorem idxT_right {A : List T3} (B : List T3) {t : T3} (h : t ∉ A) (n : Nat) : idxT (A ++ B) t n = idxT B t (n + A.length) := by rw [idxT_append, if_neg h]

theorem idxT_at {L : List T3} {t : T3} {j : Nat} (h : L[j]? = some t) (hn : ∀ i, i < j → L[i]? ≠ some t) (n : Nat) : idxT L t n = n + j := by
  induction L generalizing j n with
  | nil => simp at h
  | cons x L ih =>
    rw [idxT]
    match j, h, hn with
    | 0, h, _ => simp at h; rw [if_pos h]; simp
    | j + 1, h, hn =>
      have h0 := hn 0 (by omega)
      rw [if_neg (fun e => h0 (by simp [e])), ih (j := j) (by simpa using h) (fun i hi => by simpa using hn (i + 1) (by omega))]
      push_cast; omega

/-- A row of things of one kind. -/
theorem idxT_row {f : Nat → T3} (hf : ∀ i j, f i = f j → i = j) {m j : Nat} (hj : j < m) (n : Nat) : idxT ((List.range m).map f) (f j) n = n + j := by
  refine idxT_at (by simp [hj]) (fun i hi e => ?_) n
  simp only [List.getElem?_map] at e
  rw [List.getElem?_range (by omega)] at e
  simp at e
  have := hf _ _ e
  omega

theorem row_mem {f : Nat → T3} {m : Nat} {t : T3} : t ∈ (List.range m).map f ↔ ∃ j, j < m ∧ f j = t := by simp

theorem range_split {i n : Nat} (h : i < n) : List.range n = List.range i ++ i :: (List.range (n - (i + 1))).map (i + 1 + ·) := by
  rw [show n = i + ((n - (i + 1)) + 1) from by omega, List.range_add, List.range_succ_eq_map]
  simp only [List.map_cons, Nat.add_zero, List.map_map]
  rw [show i + (n - (i + 1) + 1) - (i + 1) = n - (i + 1) from by omega]
  congr 2
  apply List.map_congr_left
  intro x _
  simp; omega

/-- Sections, one behind the other: a thing that is in the i-th one alone. -/
theorem idxT_sections {f : Nat → List T3} {i n : Nat} (hi : i < n) {t : T3} (h : t ∈ f i) (hn : ∀ j, j < i → t ∉ f j) (m : Nat) : idxT ((List.range n).flatMap f) t m = idxT (f i) t (m + ((List.range i).flatMap f).length) := by
  rw [range_split hi, List.flatMap_append, List.flatMap_cons]
  rw [idxT_right _ (fun hm => by
    simp only [List.mem_flatMap, List.mem_range] at hm
    obtain ⟨j, hj, hm⟩ := hm
    exact hn j hj hm)]
  exact idxT_left _ h _

def tOne : List T3 := (List.range 6).map fun (j : Nat) => ⟨j, 0, 0⟩
def tAck (n : Nat) : List T3 := (List.range n).map fun (j : Nat) => ⟨6, j, 0⟩
def tHead : List T3 := (List.range 5).map fun (j : Nat) => ⟨7, j, 0⟩
def tEntry (i : Int) (n : Nat) : List T3 := (List.range n).map fun (j : Nat) => ⟨10, i, j⟩
def tDeq1 (dq : Nat) (i : Nat) : List T3 := [⟨8, i, 0⟩, ⟨9, i, 0⟩] ++ tEntry i dq
def tTask (p : Int) (n : Nat) : List T3 := (List.range n).map fun (j : Nat) => ⟨13, p, j⟩
def tPk1 (q : Nat) : List T3 := [⟨11, (q : Int) + 1, 0⟩, ⟨12, (q : Int) + 1, 0⟩] ++ tTask ((q : Int) + 1) 4
def tWord (v : Int) (n : Nat) : List T3 := (List.range n).map fun (j : Nat) => ⟨14 + (j : Int), v, 0⟩
def tSlot (v : Int) (n : Nat) : List T3 := (List.range n).map fun (j : Nat) => ⟨18, v, j⟩
def tNd1 (rs : List Int) (q : Nat) : List T3 := tWord ((q : Int) + 1) 4 ++ tSlot ((q : Int) + 1) (rs[q]?.getD 0).toNat
def tDeq (dq n : Nat) : List T3 := (List.range n).flatMap (tDeq1 dq)
def tPk (n : Nat) : List T3 := (List.range n).flatMap tPk1
def tNd (rs : List Int) (n : Nat) : List T3 := (List.range n).flatMap (tNd1 rs)

theorem tDeq_succ (dq n : Nat) : tDeq dq (n + 1) = tDeq dq n ++ tDeq1 dq n := by unfold tDeq; rw [List.range_succ, List.flatMap_append]; simp
theorem tPk_succ (n : Nat) : tPk (n + 1) = tPk n ++ tPk1 n := by unfold tPk; rw [List.range_succ, List.flatMap_append]; simp
theorem tNd_succ (rs : List Int) (n : Nat) : tNd rs (n + 1) = tNd rs n ++ tNd1 rs n := by unfold tNd; rw [List.range_succ, List.flatMap_append]; simp

/-- All things, in the order of their places. -/
def allT (c : Cfg) : List T3 := tOne ++ (tAck c.mus.toNat ++ (tHead ++ (tDeq c.dq.toNat c.mks.toNat ++ (tPk (manyI c).toNat ++ tNd (rooms c) (nN c)))))

theorem tOne_k {t : T3} (h : t ∈ tOne) : t.k ≤ 5 ∧ t.a = 0 ∧ t.b = 0 := by
  obtain ⟨j, hj, rfl⟩ := row_mem.1 h
  exact ⟨by show (j : Int) ≤ 5; omega, rfl, rfl⟩
theorem tAck_k {n : Nat} {t : T3} (h : t ∈ tAck n) : t.k = 6 := by obtain ⟨j, hj, rfl⟩ := row_mem.1 h; rfl
theorem tHead_k {t : T3} (h : t ∈ tHead) : t.k = 7 := by obtain ⟨j, hj, rfl⟩ := row_mem.1 h; rfl

theorem tDeq1_mem {dq i : Nat} {t : T3} : t ∈ tDeq1 dq i ↔ (t = ⟨8, i, 0⟩ ∨ t = ⟨9, i, 0⟩ ∨ ∃ j : Nat, j < dq ∧ ⟨10, i, j⟩ = t) := by
  unfold tDeq1 tEntry
  simp only [List.mem_append, row_mem, List.mem_cons, List.not_mem_nil, or_false, or_assoc]

theorem tDeq_mem {dq n : Nat} {t : T3} : t ∈ tDeq dq n ↔ ∃ i, i < n ∧ t ∈ tDeq1 dq i := by
  unfold tDeq; simp only [List.mem_flatMap, List.mem_range]

theorem tDeq_k {dq n : Nat} {t : T3} (h : t ∈ tDeq dq n) : 8 ≤ t.k ∧ t.k ≤ 10 := by
  obtain ⟨i, _, h⟩ := tDeq_mem.1 h
  rcases tDeq1_mem.1 h with rfl | rfl | ⟨j, _, rfl⟩
  · exact ⟨by simp, by simp⟩
  · exact ⟨by simp, by simp⟩
  · exact ⟨by simp, by simp⟩

theorem tPk1_mem {q : Nat} {t : T3} : t ∈ tPk1 q ↔ (t = ⟨11, (q : Int) + 1, 0⟩ ∨ t = ⟨12, (q : Int) + 1, 0⟩ ∨ ∃ j : Nat, j < 4 ∧ ⟨13, (q : Int) + 1, j⟩ = t) := by
  unfold tPk1 tTask
  simp only [List.mem_append, row_mem, List.mem_cons, List.not_mem_nil, or_false, or_assoc]

theorem tPk_mem {n : Nat} {t : T3} : t ∈ tPk n ↔ ∃ i, i < n ∧ t ∈ tPk1 i := by
  unfold tPk; simp only [List.mem_flatMap, List.mem_range]

theorem tPk_k {n : Nat} {t : T3} (h : t ∈ tPk n) : 11 ≤ t.k ∧ t.k ≤ 13 := by
  obtain ⟨i, _, h⟩ := tPk_mem.1 h
  rcases tPk1_mem.1 h with rfl | rfl | ⟨j, _, rfl⟩
  · exact ⟨by simp, by simp⟩
  · exact ⟨by simp, by simp⟩
  · exact ⟨by simp, by simp⟩

theorem tNd1_mem {rs : List Int} {q : Nat} {t : T3} : t ∈ tNd1 rs q ↔ ((∃ j : Nat, j < 4 ∧ ⟨14 + (j : Int), (q : Int) + 1, 0⟩ = t) ∨ ∃ j : Nat, j < (rs[q]?.getD 0).toNat ∧ ⟨18, (q : Int) + 1, j⟩ = t) := by
  unfold tNd1 tWord tSlot
  simp only [List.mem_append, row_mem]

theorem tNd_mem {rs : List Int} {n : Nat} {t : T3} : t ∈ tNd rs n ↔ ∃ i, i < n ∧ t ∈ tNd1 rs i := by
  unfold tNd; simp only [List.mem_flatMap, List.mem_range]

theorem tNd_k {rs : List Int} {n : Nat} {t : T3} (h : t ∈ tNd rs n) : 14 ≤ t.k ∧ t.k ≤ 18 := by
  obtain ⟨i, _, h⟩ := tNd_mem.1 h
  rcases tNd1_mem.1 h with ⟨j, hj, rfl⟩ | ⟨j, _, rfl⟩
  · exact ⟨by show 14 ≤ 14 + (j : Int); omega, by show 14 + (j : Int) ≤ 18; omega⟩
  · exact ⟨by simp, by simp⟩

theorem tDeq_len (dq n : Nat) : (tDeq dq n).length = n * (2 + dq) := by
  induction n with
  | zero => simp [tDeq]
  | succ n ih => rw [tDeq_succ, List.length_append, ih, Nat.succ_mul]; simp [tDeq1, tEntry]; omega

theorem tPk_len (n : Nat) : (tPk n).length = n * 6 := by
  induction n with
  | zero => simp [tPk]
  | succ n ih => rw [tPk_succ, List.length_append, ih, Nat.succ_mul]; simp [tPk1, tTask]

theorem tNd_len {c : Cfg} (n : Nat) (hn : n ≤ nN c) : ((tNd (rooms c) n).length : Int) = sumI (((rooms c).map fun r => 4 + r).take n) := by
  induction n with
  | zero => simp [tNd, sumI]
  | succ n ih =>
    have hl : n < nN c := by omega
    have hr := rooms_get hl
    rw [sumI_take_succ _ _ (by simpa [nN] using hl), List.getElem?_map, List.getElem?_eq_getElem hl, tNd_succ, List.length_append, Int.natCast_add, ih (by omega)]
    rw [List.getElem?_eq_getElem hl] at hr
    simp only [Option.getD_some] at hr
    simp [tNd1, tWord, tSlot]
    rw [List.getElem?_eq_getElem hl]
    simp only [Option.getD_some]
    omega

/-- Where a thing stands; -1: there is none such. -/
def placeT (c : Cfg) (t : T3) : Int := idxT (allT c) t 0

theorem place_one {c : Cfg} {k : Int} (h0 : 0 ≤ k) (h1 : k ≤ 5) : placeT c ⟨k, 0, 0⟩ = k := by
  obtain ⟨j, rfl⟩ : ∃ j : Nat, k = j := ⟨k.toNat, by omega⟩
  unfold placeT allT
  rw [idxT_left _ (show (⟨(j : Int), 0, 0⟩ : T3) ∈ tOne from row_mem.2 ⟨j, by omega, rfl⟩)]
  have := idxT_row (f := fun (j : Nat) => (⟨j, 0, 0⟩ : T3)) (fun a b e => by simp at e; omega) (show j < 6 by omega) 0
  unfold tOne
  rw [this]; simp

/-- The sections ahead of the deques are passed. -/
theorem place_past {c : Cfg} (hg : Good c) {t : T3} (hk : 8 ≤ t.k) : placeT c t = idxT (tDeq c.dq.toNat c.mks.toNat ++ (tPk (manyI c).toNat ++ tNd (rooms c) (nN c))) t (dqsI c).toNat := by
  have hb : 1 ≤ c.mus := by unfold Good at hg; omega
  unfold placeT allT
  rw [idxT_right _ (fun h => by have := tOne_k h; omega), idxT_right _ (fun h => by have := tAck_k h; omega), idxT_right _ (fun h => by have := tHead_k h; omega)]
  congr 1
  simp [tOne, tAck, tHead, dqsI, headI]; omega

theorem place_ack {c : Cfg} (hg : Good c) (i : Int) : placeT c ⟨6, i, 0⟩ = pAck c i := by
  have hb : 1 ≤ c.mus := by unfold Good at hg; omega
  unfold placeT allT
  rw [idxT_right _ (fun h => by have := (tOne_k h).1; simp at this)]
  unfold pAck
  split
  · next h =>
    obtain ⟨j, rfl⟩ : ∃ j : Nat, i = j := ⟨i.toNat, by omega⟩
    rw [idxT_left _ (show (⟨6, (j : Int), 0⟩ : T3) ∈ tAck c.mus.toNat from row_mem.2 ⟨j, by omega, rfl⟩)]
    have := idxT_row (f := fun (j : Nat) => (⟨6, j, 0⟩ : T3)) (fun a b e => by simp at e; omega) (show j < c.mus.toNat by omega) (0 + tOne.length)
    unfold tAck
    rw [this]; simp [tOne]
  · next h =>
    rw [idxT_none]
    simp only [List.mem_append, not_or]
    refine ⟨fun hm => ?_, fun hm => ?_, fun hm => ?_, fun hm => ?_, fun hm => ?_⟩
    · obtain ⟨j, hj, e⟩ := row_mem.1 hm
      simp at e; omega
    · have := tHead_k hm; simp at this
    · have := tDeq_k hm; simp at this
    · have := tPk_k hm; simp at this
    · have := tNd_k hm; simp at this

theorem place_head {c : Cfg} (hg : Good c) (i : Int) : placeT c ⟨7, i, 0⟩ = pHead c i := by
  have hb : 1 ≤ c.mus := by unfold Good at hg; omega
  unfold placeT allT
  rw [idxT_right _ (fun h => by have := (tOne_k h).1; simp at this), idxT_right _ (fun h => by have := tAck_k h; simp at this)]
  unfold pHead
  split
  · next h =>
    obtain ⟨j, rfl⟩ : ∃ j : Nat, i = j := ⟨i.toNat, by omega⟩
    rw [idxT_left _ (show (⟨7, (j : Int), 0⟩ : T3) ∈ tHead from row_mem.2 ⟨j, by omega, rfl⟩)]
    have := idxT_row (f := fun (j : Nat) => (⟨7, j, 0⟩ : T3)) (fun a b e => by simp at e; omega) (show j < 5 by omega) (0 + tOne.length + (tAck c.mus.toNat).length)
    unfold tHead
    rw [this]; simp [tOne, tAck, headI]; omega
  · next h =>
    rw [idxT_none]
    simp only [List.mem_append, not_or]
    refine ⟨fun hm => ?_, fun hm => ?_, fun hm => ?_, fun hm => ?_⟩
    · obtain ⟨j, hj, e⟩ := row_mem.1 hm
      simp at e; omega
    · have := tDeq_k hm; simp at this
    · have := tPk_k hm; simp at this
    · have := tNd_k hm; simp at this

theorem deq_only {dq i j : Nat} {t : T3} (h : t ∈ tDeq1 dq i) (e : t.a = (j : Int)) : i = j := by
  rcases tDeq1_mem.1 h with rfl | rfl | ⟨q, _, rfl⟩ <;> · simp at e; omega

/-- A thing of a marker's. -/
theorem place_deq {c : Cfg} (hg : Good c) {t : T3} (i : Nat) (hi : (i : Int) < c.mks) (ht : t ∈ tDeq1 c.dq.toNat i) (hk : 8 ≤ t.k) (ha : t.a = (i : Int)) : placeT c t = idxT (tDeq1 c.dq.toNat i) t (dqsI c + i * (2 + c.dq)).toNat := by
  have hq : 2 ≤ c.dq ∧ c.dq ≤ 8 := by unfold Good at hg; omega
  have hd := dqs_bound hg
  rw [place_past hg hk, idxT_left _ (tDeq_mem.2 ⟨i, by omega, ht⟩)]
  unfold tDeq
  rw [idxT_sections (by omega) ht (fun j hj h => by have := deq_only h ha; omega)]
  have := tDeq_len c.dq.toNat i
  unfold tDeq at this
  rw [this]
  congr 1
  have h1 : (0 : Int) ≤ i * (2 + c.dq) := Int.mul_nonneg (by omega) (by omega)
  rw [Int.toNat_add (by omega) h1, Int.toNat_mul (by omega) (by omega)]
  simp only [Int.toNat_natCast]
  rw [show (2 + c.dq).toNat = 2 + c.dq.toNat from by omega]

theorem deq_none {c : Cfg} (hg : Good c) {t : T3} (hk : 8 ≤ t.k ∧ t.k ≤ 10) (h : ∀ i : Nat, (i : Int) < c.mks → t ∉ tDeq1 c.dq.toNat i) : placeT c t = -1 := by
  rw [place_past hg hk.1, idxT_none]
  simp only [List.mem_append, not_or]
  refine ⟨fun hm => ?_, fun hm => ?_, fun hm => ?_⟩
  · obtain ⟨i, hi, hm⟩ := tDeq_mem.1 hm
    exact h i (by omega) hm
  · have := tPk_k hm; omega
  · have := tNd_k hm; omega

theorem place_end {c : Cfg} (hg : Good c) (i j : Int) (hj : j = 0 ∨ j = 1) : placeT c ⟨8 + j, i, 0⟩ = pEnd c i j := by
  have hq : 2 ≤ c.dq ∧ c.dq ≤ 8 := by unfold Good at hg; omega
  have hd := dqs_bound hg
  unfold pEnd
  split
  · next h =>
    obtain ⟨m, rfl⟩ : ∃ m : Nat, i = m := ⟨i.toNat, by omega⟩
    have h1 : (0 : Int) ≤ m * (2 + c.dq) := Int.mul_nonneg (by omega) (by omega)
    rw [place_deq hg m h.2 (tDeq1_mem.2 (by rcases hj with rfl | rfl; exact .inl rfl; exact .inr (.inl rfl))) (by simp; omega) rfl]
    unfold tDeq1
    rcases hj with rfl | rfl
    · simp only [List.cons_append, idxT]; simp; omega
    · simp only [List.cons_append, idxT]; simp; omega
  · next h =>
    refine deq_none hg ⟨by simp; omega, by simp; omega⟩ (fun m hm ht => ?_)
    rcases tDeq1_mem.1 ht with e | e | ⟨q, _, e⟩ <;> · simp at e; omega

theorem place_entry {c : Cfg} (hg : Good c) (i j : Int) : placeT c ⟨10, i, j⟩ = pEntry c i j := by
  have hq : 2 ≤ c.dq ∧ c.dq ≤ 8 := by unfold Good at hg; omega
  have hd := dqs_bound hg
  by_cases h : (0 ≤ j ∧ j < c.dq) ∧ (0 ≤ i ∧ i < c.mks)
  · unfold pEntry pEnd
    rw [if_pos h.1, if_pos h.2]
    obtain ⟨⟨j0, j1⟩, i0, i1⟩ := h
    obtain ⟨m, rfl⟩ : ∃ m : Nat, i = m := ⟨i.toNat, by omega⟩
    obtain ⟨q, rfl⟩ : ∃ q : Nat, j = q := ⟨j.toNat, by omega⟩
    have h1 : (0 : Int) ≤ m * (2 + c.dq) := Int.mul_nonneg (by omega) (by omega)
    rw [place_deq hg m i1 (tDeq1_mem.2 (.inr (.inr ⟨q, by omega, rfl⟩))) (by simp) rfl]
    unfold tDeq1
    rw [idxT_right _ (by simp)]
    have := idxT_row (f := fun (j : Nat) => (⟨10, m, j⟩ : T3)) (fun a b e => by simp at e; omega) (show q < c.dq.toNat by omega) ((dqsI c + m * (2 + c.dq)).toNat + 2)
    unfold tEntry
    simp only [List.length_cons, List.length_nil]
    rw [this]; simp; omega
  · rw [deq_none hg ⟨by simp, by simp⟩ (fun m hm ht => by
      rcases tDeq1_mem.1 ht with e | e | ⟨q, hq, e⟩
      · simp at e
      · simp at e
      · simp at e; exact h ⟨⟨by omega, by omega⟩, by omega, by omega⟩)]
    unfold pEntry pEnd
    split
    · rw [if_neg (fun h2 => h ⟨by omega, h2⟩)]
    · rfl

theorem pk_only {i j : Nat} {t : T3} (h : t ∈ tPk1 i) (e : t.a = (j : Int) + 1) : i = j := by
  rcases tPk1_mem.1 h with rfl | rfl | ⟨q, _, rfl⟩ <;> · simp at e; omega

/-- A thing of a packet's. -/
theorem place_pk {c : Cfg} (hg : Good c) {t : T3} (i : Nat) (hi : (i : Int) < manyI c) (ht : t ∈ tPk1 i) (hk : 11 ≤ t.k) (ha : t.a = (i : Int) + 1) : placeT c t = idxT (tPk1 i) t (pksI c + i * 6).toNat := by
  have hq : 2 ≤ c.dq ∧ c.dq ≤ 8 := by unfold Good at hg; omega
  have hm : 1 ≤ c.mks := by unfold Good at hg; omega
  have hd := dqs_bound hg
  rw [place_past hg (by omega), idxT_right _ (fun h => by have := tDeq_k h; omega), idxT_left _ (tPk_mem.2 ⟨i, by omega, ht⟩)]
  unfold tPk
  rw [idxT_sections (by omega) ht (fun j hj h => by have := pk_only h ha; omega)]
  have := tPk_len i
  unfold tPk at this
  rw [this, tDeq_len]
  congr 1
  unfold pksI
  have h1 : (0 : Int) ≤ c.mks * (2 + c.dq) := Int.mul_nonneg (by omega) (by omega)
  rw [Int.toNat_add (by omega) (by omega), Int.toNat_add (by omega) h1, Int.toNat_mul (by omega) (by omega)]
  rw [show (2 + c.dq).toNat = 2 + c.dq.toNat from by omega]
  omega

theorem pk_none {c : Cfg} (hg : Good c) {t : T3} (hk : 11 ≤ t.k ∧ t.k ≤ 13) (h : ∀ i : Nat, (i : Int) < manyI c → t ∉ tPk1 i) : placeT c t = -1 := by
  rw [place_past hg (by omega), idxT_none]
  simp only [List.mem_append, not_or]
  refine ⟨fun hm => ?_, fun hm => ?_, fun hm => ?_⟩
  · have := tDeq_k hm; omega
  · obtain ⟨i, hi, hm⟩ := tPk_mem.1 hm
    exact h i (by omega) hm
  · have := tNd_k hm; omega

theorem place_pack {c : Cfg} (hg : Good c) (p j : Int) (hj : j = 0 ∨ j = 1) : placeT c ⟨11 + j, p, 0⟩ = pPack c p j := by
  have hd := dqs_bound hg
  unfold pPack
  split
  · next h =>
    obtain ⟨m, hm⟩ : ∃ m : Nat, p = (m : Int) + 1 := ⟨(p - 1).toNat, by omega⟩
    subst hm
    rw [place_pk hg m (by omega) (tPk1_mem.2 (by rcases hj with rfl | rfl; exact .inl rfl; exact .inr (.inl rfl))) (by simp; omega) rfl]
    unfold tPk1
    rcases hj with rfl | rfl
    · simp only [List.cons_append, idxT]; simp; omega
    · simp only [List.cons_append, idxT]; simp; omega
  · next h =>
    refine pk_none hg ⟨by simp; omega, by simp; omega⟩ (fun m hm ht => ?_)
    rcases tPk1_mem.1 ht with e | e | ⟨q, _, e⟩ <;> · simp at e; omega

theorem place_task {c : Cfg} (hg : Good c) (p j : Int) : placeT c ⟨13, p, j⟩ = pTask c p j := by
  have hd := dqs_bound hg
  by_cases h : (0 ≤ j ∧ j < 4) ∧ (1 ≤ p ∧ p ≤ manyI c)
  · unfold pTask pPack
    rw [if_pos h.1, if_pos h.2]
    obtain ⟨⟨j0, j1⟩, i0, i1⟩ := h
    obtain ⟨m, hm⟩ : ∃ m : Nat, p = (m : Int) + 1 := ⟨(p - 1).toNat, by omega⟩
    subst hm
    obtain ⟨q, rfl⟩ : ∃ q : Nat, j = q := ⟨j.toNat, by omega⟩
    rw [place_pk hg m (by omega) (tPk1_mem.2 (.inr (.inr ⟨q, by omega, rfl⟩))) (by simp) rfl]
    unfold tPk1
    rw [idxT_right _ (by simp)]
    have := idxT_row (f := fun (j : Nat) => (⟨13, (m : Int) + 1, j⟩ : T3)) (fun a b e => by simp at e; omega) (show q < 4 by omega) ((pksI c + m * 6).toNat + 2)
    unfold tTask
    simp only [List.length_cons, List.length_nil]
    rw [this]; simp; omega
  · rw [pk_none hg ⟨by simp, by simp⟩ (fun m hm ht => by
      rcases tPk1_mem.1 ht with e | e | ⟨q, hq, e⟩
      · simp at e
      · simp at e
      · simp at e; exact h ⟨⟨by omega, by omega⟩, by omega, by omega⟩)]
    unfold pTask pPack
    split
    · rw [if_neg (fun h2 => h ⟨by omega, h2⟩)]
    · rfl

theorem nd_only {rs : List Int} {i j : Nat} {t : T3} (h : t ∈ tNd1 rs i) (e : t.a = (j : Int) + 1) : i = j := by
  rcases tNd1_mem.1 h with ⟨q, _, rfl⟩ | ⟨q, _, rfl⟩ <;> · simp at e; omega

/-- A thing of a node's. -/
theorem place_nd {c : Cfg} (hg : Good c) {t : T3} (i : Nat) (hi : i < nN c) (ht : t ∈ tNd1 (rooms c) i) (hk : 14 ≤ t.k) (ha : t.a = (i : Int) + 1) : placeT c t = idxT (tNd1 (rooms c) i) t (atI c i).toNat := by
  have hq : 2 ≤ c.dq ∧ c.dq ≤ 8 := by unfold Good at hg; omega
  have hm : 1 ≤ c.mks := by unfold Good at hg; omega
  have hd := dqs_bound hg
  have hmb := manyI_bound hg
  rw [place_past hg (by omega), idxT_right _ (fun h => by have := tDeq_k h; omega), idxT_right _ (fun h => by have := tPk_k h; omega)]
  have hl := tNd_len (c := c) i (by omega)
  have hb := at_bound c hg i
  unfold tNd at hl ⊢
  rw [idxT_sections hi ht (fun j hj h => by have := nd_only h ha; omega), tDeq_len, tPk_len]
  congr 1
  unfold atI node0I pksI
  rw [← hl]
  have h1 : (0 : Int) ≤ c.mks * (2 + c.dq) := Int.mul_nonneg (by omega) (by omega)
  rw [Int.toNat_add (by omega) (by omega), Int.toNat_add (by omega) (by omega), Int.toNat_add (by omega) h1, Int.toNat_mul (by omega) (by omega), Int.toNat_mul (by omega) (by omega)]
  rw [show (2 + c.dq).toNat = 2 + c.dq.toNat from by omega]
  simp

theorem nd_none {c : Cfg} (hg : Good c) {t : T3} (hk : 14 ≤ t.k) (h : ∀ i : Nat, i < nN c → t ∉ tNd1 (rooms c) i) : placeT c t = -1 := by
  rw [place_past hg (by omega), idxT_none]
  simp only [List.mem_append, not_or]
  refine ⟨fun hm => ?_, fun hm => ?_, fun hm => ?_⟩
  · have := tDeq_k hm; omega
  · have := tPk_k hm; omega
  · obtain ⟨i, hi, hm⟩ := tNd_mem.1 hm
    exact h i (by omega) hm

theorem place_node {c : Cfg} (hg : Good c) (v j : Int) (h0 : 0 ≤ j) (h1 : j < 4) : placeT c ⟨14 + j, v, 0⟩ = pNode c v j := by
  unfold pNode
  split
  · next h =>
    obtain ⟨m, hm⟩ : ∃ m : Nat, v = (m : Int) + 1 := ⟨(v - 1).toNat, by omega⟩
    subst hm
    obtain ⟨q, rfl⟩ : ∃ q : Nat, j = q := ⟨j.toNat, by omega⟩
    have hb := atI_bound hg m
    rw [place_nd hg m (by omega) (tNd1_mem.2 (.inl ⟨q, by omega, rfl⟩)) (by simp; omega) rfl]
    unfold tNd1
    rw [idxT_left _ (show (⟨14 + (q : Int), (m : Int) + 1, 0⟩ : T3) ∈ tWord ((m : Int) + 1) 4 from row_mem.2 ⟨q, by omega, rfl⟩)]
    have := idxT_row (f := fun (j : Nat) => (⟨14 + (j : Int), (m : Int) + 1, 0⟩ : T3)) (fun a b e => by simp at e; omega) (show q < 4 by omega) (atI c m).toNat
    unfold tWord
    rw [this, show ((m : Int) + 1 - 1).toNat = m from by omega]; omega
  · next h =>
    refine nd_none hg (by simp; omega) (fun m hm ht => ?_)
    rcases tNd1_mem.1 ht with ⟨q, _, e⟩ | ⟨q, _, e⟩ <;> · simp at e; omega

theorem place_slot {c : Cfg} (hg : Good c) (v i : Int) : placeT c ⟨18, v, i⟩ = pSlot c v i := by
  by_cases h : (1 ≤ v ∧ v ≤ nN c) ∧ 0 ≤ i ∧ i < room c v
  · unfold pSlot pNode
    rw [if_pos h.2, if_pos h.1]
    obtain ⟨⟨v0, v1⟩, i0, i1⟩ := h
    unfold room at i1
    rw [if_pos ⟨v0, v1⟩] at i1
    obtain ⟨m, hm⟩ : ∃ m : Nat, v = (m : Int) + 1 := ⟨(v - 1).toNat, by omega⟩
    subst hm
    rw [show ((m : Int) + 1 - 1).toNat = m from by omega] at i1 ⊢
    obtain ⟨q, rfl⟩ : ∃ q : Nat, i = q := ⟨i.toNat, by omega⟩
    have hb := atI_bound hg m
    rw [place_nd hg m (by omega) (tNd1_mem.2 (.inr ⟨q, by omega, rfl⟩)) (by simp) rfl]
    unfold tNd1
    rw [idxT_right _ (fun hm => by obtain ⟨q, hq, e⟩ := row_mem.1 hm; simp at e; omega)]
    have := idxT_row (f := fun (j : Nat) => (⟨18, (m : Int) + 1, j⟩ : T3)) (fun a b e => by simp at e; omega) (show q < ((rooms c)[m]?.getD 0).toNat by omega) ((atI c m).toNat + 4)
    unfold tSlot
    rw [show (tWord ((m : Int) + 1) 4).length = 4 from by simp [tWord], this]; omega
  · rw [nd_none hg (by simp) (fun m hm ht => by
      rcases tNd1_mem.1 ht with ⟨q, hq, e⟩ | ⟨q, hq, e⟩
      · simp at e; omega
      · simp at e
        refine h ⟨by omega, by omega, ?_⟩
        unfold room
        rw [if_pos (by omega), show (v - 1).toNat = m from by omega]; omega)]
    unfold pSlot
    split
    · next h2 =>
      unfold pNode
      rw [if_neg (fun h3 => h ⟨h3, h2⟩)]
    · rfl

end Go.Proofs.Ytcejleaedlflaaa

/- The document's map: all things in their order, and where each stands: plain numbers. No program. The document's configuration: classes, rooms, packets: walked. All things of the document's map, in their order, and where each stands: walked. Where a thing stands in the document's map: walked. Where the document's stacks stand: walked. -/
import Derived.Test.YtfbcadknimfhjaaGreatPkA
import Derived.Test.YtfbcadknimfhjaaGreatPkNew
import Derived.Deep.QuietTactic
import Derived.BigQuiet
import Derived.Test.YtfbcadknimfhjaaGreatPkW
import Derived.Deep.AppendLies
import Derived.Laws.StructEq
import Derived.Test.YtfbcadknimfhjaaGreatPkQ
import Derived.Test.YtfbcadknimfhjaaGreatPkD
namespace Go.Proofs.YtfbcadknimfhjaaGreat
open Go.RowKit

/-- A thing: its kind, and its numbers. -/
structure T3 where
  k : Int
  a : Int
  b : Int
deriving DecidableEq

/-- Where a thing stands in a list that begins at n; -1: there is none such. -/
def idxT : List T3 → T3 → Nat → Int
  | [], _, _ => -1
  | x :: L, t, n => if x = t then n else idxT L t (n + 1)

theorem idxT_none {L : List T3} {t : T3} (h : t ∉ L) (n : Nat) : idxT L t n = -1 := by
  induction L generalizing n with
  | nil => rfl
  | cons x L ih =>
    rw [idxT, if_neg (fun e => h (by rw [e]; simp)), ih (fun hm => h (by simp [hm]))]

theorem idxT_append (A B : List T3) (t : T3) (n : Nat) : idxT (A ++ B) t n = if t ∈ A then idxT A t n else idxT B t (n + A.length) := by
  induction A generalizing n with
  | nil => simp
  | cons x A ih =>
    rw [List.cons_append, idxT, idxT]
    by_cases e : x = t
    · rw [if_pos e, if_pos e, if_pos (by rw [e]; simp)]
    · rw [if_neg e, if_neg e, ih]
      by_cases h : t ∈ A
      · rw [if_pos h, if_pos (by simp [h])]
      · rw [if_neg h, if_neg (by simp [h, Ne.symm e]), List.length_cons]
        congr 1; omega

theorem idxT_left {A : List T3} (B : List T3) {t : T3} (h : t ∈ A) (n : Nat) : idxT (A ++ B) t n = idxT A t n := by rw [idxT_append, if_pos h]

theorem idxT_right {A : List T3} (B : List T3) {t : T3} (h : t ∉ A) (n : Nat) : idxT (A ++ B) t n = idxT B t (n + A.length) := by rw [idxT_append, if_neg h]

theorem idxT_at {L : List T3} {t : T3} {j : Nat} (h : L[j]? = some t) (hn : ∀ i, i < j → L[i]? ≠ some t) (n : Nat) : idxT L t n = n + j := by
  induction L generalizing j n with
  | nil => simp at h
  | cons x L ih =>
    rw [idxT]
    match j, h, hn with
    | 0, h, _ => simp at h; rw [if_pos h]; simp
    | j + 1, h, hn =>
      have h0 := hn 0 (by omega)
      rw [if_neg (fun e => h0 (by simp [e])), ih (j := j) (by simpa using h) (fun i hi => by simpa using hn (i + 1) (by omega))]
      push_cast; omega

/-- A row of things of one kind. -/
theorem idxT_row {f : Nat → T3} (hf : ∀ i j, f i = f j → i = j) {m j : Nat} (hj : j < m) (n : Nat) : idxT ((List.range m).map f) (f j) n = n + j := by
  refine idxT_at (by simp [hj]) (fun i hi e => ?_) n
  simp only [List.getElem?_map] at e
  rw [List.getElem?_range (by omega)] at e
  simp at e
  have := hf _ _ e
  omega

theorem row_mem {f : Nat → T3} {m : Nat} {t : T3} : t ∈ (List.range m).map f ↔ ∃ j, j < m ∧ f j = t := by simp

theorem range_split {i n : Nat} (h : i < n) : List.range n = List.range i ++ i :: (List.range (n - (i + 1))).map (i + 1 + ·) := by
  rw [show n = i + ((n - (i + 1)) + 1) from by omega, List.range_add, List.range_succ_eq_map]
  simp only [List.map_cons, Nat.add_zero, List.map_map]
  rw [show i + (n - (i + 1) + 1) - (i + 1) = n - (i + 1) from by omega]
  congr 2
  apply List.map_congr_left
  intro x _
  simp; omega

/-- Sections, one behind the other: a thing that is in the i-th one alone. -/
theorem idxT_sections {f : Nat → List T3} {i n : Nat} (hi : i < n) {t : T3} (h : t ∈ f i) (hn : ∀ j, j < i → t ∉ f j) (m : Nat) : idxT ((List.range n).flatMap f) t m = idxT (f i) t (m + ((List.range i).flatMap f).length) := by
  rw [range_split hi, List.flatMap_append, List.flatMap_cons]
  rw [idxT_right _ (fun hm => by
    simp only [List.mem_flatMap, List.mem_range] at hm
    obtain ⟨j, hj, hm⟩ := hm
    exact hn j hj hm)]
  exact idxT_left _ h _

def tOne : List T3 := (List.range 6).map fun (j : Nat) => ⟨j, 0, 0⟩
def tAck (n : Nat) : List T3 := (List.range n).map fun (j : Nat) => ⟨6, j, 0⟩
def tHead : List T3 := (List.range 5).map fun (j : Nat) => ⟨7, j, 0⟩
def tEntry (i : Int) (n : Nat) : List T3 := (List.range n).map fun (j : Nat) => ⟨10, i, j⟩
def tDeq1 (dq : Nat) (i : Nat) : List T3 := [⟨8, i, 0⟩, ⟨9, i, 0⟩] ++ tEntry i dq
def tTask (p : Int) (n : Nat) : List T3 := (List.range n).map fun (j : Nat) => ⟨13, p, j⟩
def tPk1 (q : Nat) : List T3 := [⟨11, (q : Int) + 1, 0⟩, ⟨12, (q : Int) + 1, 0⟩] ++ tTask ((q : Int) + 1) 4
def tWord (v : Int) (n : Nat) : List T3 := (List.range n).map fun (j : Nat) => ⟨14 + (j : Int), v, 0⟩
def tSlot (v : Int) (n : Nat) : List T3 := (List.range n).map fun (j : Nat) => ⟨18, v, j⟩
def tNd1 (rs : List Int) (q : Nat) : List T3 := tWord ((q : Int) + 1) 4 ++ tSlot ((q : Int) + 1) (rs[q]?.getD 0).toNat
def tDeq (dq n : Nat) : List T3 := (List.range n).flatMap (tDeq1 dq)
def tPk (n : Nat) : List T3 := (List.range n).flatMap tPk1
def tNd (rs : List Int) (n : Nat) : List T3 := (List.range n).flatMap (tNd1 rs)

theorem tDeq_succ (dq n : Nat) : tDeq dq (n + 1) = tDeq dq n ++ tDeq1 dq n := by unfold tDeq; rw [List.range_succ, List.flatMap_append]; simp
theorem tPk_succ (n : Nat) : tPk (n + 1) = tPk n ++ tPk1 n := by unfold tPk; rw [List.range_succ, List.flatMap_append]; simp
theorem tNd_succ (rs : List Int) (n : Nat) : tNd rs (n + 1) = tNd rs n ++ tNd1 rs n := by unfold tNd; rw [List.range_succ, List.flatMap_append]; simp

/-- All things, in the order of their places. -/
def allT (c : Cfg) : List T3 := tOne ++ (tAck c.mus.toNat ++ (tHead ++ (tDeq c.dq.toNat c.mks.toNat ++ (tPk (manyI c).toNat ++ tNd (rooms c) (nN c)))))

theorem tOne_k {t : T3} (h : t ∈ tOne) : t.k ≤ 5 ∧ t.a = 0 ∧ t.b = 0 := by
  obtain ⟨j, hj, rfl⟩ := row_mem.1 h
  exact ⟨by show (j : Int) ≤ 5; omega, rfl, rfl⟩
theorem tAck_k {n : Nat} {t : T3} (h : t ∈ tAck n) : t.k = 6 := by obtain ⟨j, hj, rfl⟩ := row_mem.1 h; rfl
theorem tHead_k {t : T3} (h : t ∈ tHead) : t.k = 7 := by obtain ⟨j, hj, rfl⟩ := row_mem.1 h; rfl

theorem tDeq1_mem {dq i : Nat} {t : T3} : t ∈ tDeq1 dq i ↔ (t = ⟨8, i, 0⟩ ∨ t = ⟨9, i, 0⟩ ∨ ∃ j : Nat, j < dq ∧ ⟨10, i, j⟩ = t) := by
  unfold tDeq1 tEntry
  simp only [List.mem_append, row_mem, List.mem_cons, List.not_mem_nil, or_false, or_assoc]

theorem tDeq_mem {dq n : Nat} {t : T3} : t ∈ tDeq dq n ↔ ∃ i, i < n ∧ t ∈ tDeq1 dq i := by
  unfold tDeq; simp only [List.mem_flatMap, List.mem_range]

theorem tDeq_k {dq n : Nat} {t : T3} (h : t ∈ tDeq dq n) : 8 ≤ t.k ∧ t.k ≤ 10 := by
  obtain ⟨i, _, h⟩ := tDeq_mem.1 h
  rcases tDeq1_mem.1 h with rfl | rfl | ⟨j, _, rfl⟩
  · exact ⟨by simp, by simp⟩
  · exact ⟨by simp, by simp⟩
  · exact ⟨by simp, by simp⟩

theorem tPk1_mem {q : Nat} {t : T3} : t ∈ tPk1 q ↔ (t = ⟨11, (q : Int) + 1, 0⟩ ∨ t = ⟨12, (q : Int) + 1, 0⟩ ∨ ∃ j : Nat, j < 4 ∧ ⟨13, (q : Int) + 1, j⟩ = t) := by
  unfold tPk1 tTask
  simp only [List.mem_append, row_mem, List.mem_cons, List.not_mem_nil, or_false, or_assoc]

theorem tPk_mem {n : Nat} {t : T3} : t ∈ tPk n ↔ ∃ i, i < n ∧ t ∈ tPk1 i := by
  unfold tPk; simp only [List.mem_flatMap, List.mem_range]

theorem tPk_k {n : Nat} {t : T3} (h : t ∈ tPk n) : 11 ≤ t.k ∧ t.k ≤ 13 := by
  obtain ⟨i, _, h⟩ := tPk_mem.1 h
  rcases tPk1_mem.1 h with rfl | rfl | ⟨j, _, rfl⟩
  · exact ⟨by simp, by simp⟩
  · exact ⟨by simp, by simp⟩
  · exact ⟨by simp, by simp⟩

theorem tNd1_mem {rs : List Int} {q : Nat} {t : T3} : t ∈ tNd1 rs q ↔ ((∃ j : Nat, j < 4 ∧ ⟨14 + (j : Int), (q : Int) + 1, 0⟩ = t) ∨ ∃ j : Nat, j < (rs[q]?.getD 0).toNat ∧ ⟨18, (q : Int) + 1, j⟩ = t) := by
  unfold tNd1 tWord tSlot
  simp only [List.mem_append, row_mem]

theorem tNd_mem {rs : List Int} {n : Nat} {t : T3} : t ∈ tNd rs n ↔ ∃ i, i < n ∧ t ∈ tNd1 rs i := by
  unfold tNd; simp only [List.mem_flatMap, List.mem_range]

theorem tNd_k {rs : List Int} {n : Nat} {t : T3} (h : t ∈ tNd rs n) : 14 ≤ t.k ∧ t.k ≤ 18 := by
  obtain ⟨i, _, h⟩ := tNd_mem.1 h
  rcases tNd1_mem.1 h with ⟨j, hj, rfl⟩ | ⟨j, _, rfl⟩
  · exact ⟨by show 14 ≤ 14 + (j : Int); omega, by show 14 + (j : Int) ≤ 18; omega⟩
  · exact ⟨by simp, by simp⟩

theorem tDeq_len (dq n : Nat) : (tDeq dq n).length = n * (2 + dq) := by
  induction n with
  | zero => simp [tDeq]
  | succ n ih => rw [tDeq_succ, List.length_append, ih, Nat.succ_mul]; simp [tDeq1, tEntry]; omega

theorem tPk_len (n : Nat) : (tPk n).length = n * 6 := by
  induction n with
  | zero => simp [tPk]
  | succ n ih => rw [tPk_succ, List.length_append, ih, Nat.succ_mul]; simp [tPk1, tTask]

theorem tNd_len {c : Cfg} (n : Nat) (hn : n ≤ nN c) : ((tNd (rooms c) n).length : Int) = sumI (((rooms c).map fun r => 4 + r).take n) := by
  induction n with
  | zero => simp [tNd, sumI]
  | succ n ih =>
    have hl : n < nN c := by omega
    have hr := rooms_get hl
    rw [sumI_take_succ _ _ (by simpa [nN] using hl), List.getElem?_map, List.getElem?_eq_getElem hl, tNd_succ, List.length_append, Int.natCast_add, ih (by omega)]
    rw [List.getElem?_eq_getElem hl] at hr
    simp only [Option.getD_some] at hr
    simp [tNd1, tWord, tSlot]
    rw [List.getElem?_eq_getElem hl]
    simp only [Option.getD_some]
    omega

/-- Where a thing stands; -1: there is none such. -/
def placeT (c : Cfg) (t : T3) : Int := idxT (allT c) t 0

theorem place_one {c : Cfg} {k : Int} (h0 : 0 ≤ k) (h1 : k ≤ 5) : placeT c ⟨k, 0, 0⟩ = k := by
  obtain ⟨j, rfl⟩ : ∃ j : Nat, k = j := ⟨k.toNat, by omega⟩
  unfold placeT allT
  rw [idxT_left _ (show (⟨(j : Int), 0, 0⟩ : T3) ∈ tOne from row_mem.2 ⟨j, by omega, rfl⟩)]
  have := idxT_row (f := fun (j : Nat) => (⟨j, 0, 0⟩ : T3)) (fun a b e => by simp at e; omega) (show j < 6 by omega) 0
  unfold tOne
  rw [this]; simp

/-- The sections ahead of the deques are passed. -/
theorem place_past {c : Cfg} (hg : Good c) {t : T3} (hk : 8 ≤ t.k) : placeT c t = idxT (tDeq c.dq.toNat c.mks.toNat ++ (tPk (manyI c).toNat ++ tNd (rooms c) (nN c))) t (dqsI c).toNat := by
  have hb : 1 ≤ c.mus := by unfold Good at hg; omega
  unfold placeT allT
  rw [idxT_right _ (fun h => by have := tOne_k h; omega), idxT_right _ (fun h => by have := tAck_k h; omega), idxT_right _ (fun h => by have := tHead_k h; omega)]
  congr 1
  simp [tOne, tAck, tHead, dqsI, headI]; omega

theorem place_ack {c : Cfg} (hg : Good c) (i : Int) : placeT c ⟨6, i, 0⟩ = pAck c i := by
  have hb : 1 ≤ c.mus := by unfold Good at hg; omega
  unfold placeT allT
  rw [idxT_right _ (fun h => by have := (tOne_k h).1; simp at this)]
  unfold pAck
  split
  · next h =>
    obtain ⟨j, rfl⟩ : ∃ j : Nat, i = j := ⟨i.toNat, by omega⟩
    rw [idxT_left _ (show (⟨6, (j : Int), 0⟩ : T3) ∈ tAck c.mus.toNat from row_mem.2 ⟨j, by omega, rfl⟩)]
    have := idxT_row (f := fun (j : Nat) => (⟨6, j, 0⟩ : T3)) (fun a b e => by simp at e; omega) (show j < c.mus.toNat by omega) (0 + tOne.length)
    unfold tAck
    rw [this]; simp [tOne]
  · next h =>
    rw [idxT_none]
    simp only [List.mem_append, not_or]
    refine ⟨fun hm => ?_, fun hm => ?_, fun hm => ?_, fun hm => ?_, fun hm => ?_⟩
    · obtain ⟨j, hj, e⟩ := row_mem.1 hm
      simp at e; omega
    · have := tHead_k hm; simp at this
    · have := tDeq_k hm; simp at this
    · have := tPk_k hm; simp at this
    · have := tNd_k hm; simp at this

theorem place_head {c : Cfg} (hg : Good c) (i : Int) : placeT c ⟨7, i, 0⟩ = pHead c i := by
  have hb : 1 ≤ c.mus := by unfold Good at hg; omega
  unfold placeT allT
  rw [idxT_right _ (fun h => by have := (tOne_k h).1; simp at this), idxT_right _ (fun h => by have := tAck_k h; simp at this)]
  unfold pHead
  split
  · next h =>
    obtain ⟨j, rfl⟩ : ∃ j : Nat, i = j := ⟨i.toNat, by omega⟩
    rw [idxT_left _ (show (⟨7, (j : Int), 0⟩ : T3) ∈ tHead from row_mem.2 ⟨j, by omega, rfl⟩)]
    have := idxT_row (f := fun (j : Nat) => (⟨7, j, 0⟩ : T3)) (fun a b e => by simp at e; omega) (show j < 5 by omega) (0 + tOne.length + (tAck c.mus.toNat).length)
    unfold tHead
    rw [this]; simp [tOne, tAck, headI]; omega
  · next h =>
    rw [idxT_none]
    simp only [List.mem_append, not_or]
    refine ⟨fun hm => ?_, fun hm => ?_, fun hm => ?_, fun hm => ?_⟩
    · obtain ⟨j, hj, e⟩ := row_mem.1 hm
      simp at e; omega
    · have := tDeq_k hm; simp at this
    · have := tPk_k hm; simp at this
    · have := tNd_k hm; simp at this

theorem deq_only {dq i j : Nat} {t : T3} (h : t ∈ tDeq1 dq i) (e : t.a = (j : Int)) : i = j := by
  rcases tDeq1_mem.1 h with rfl | rfl | ⟨q, _, rfl⟩ <;> · simp at e; omega

/-- A thing of a marker's. -/
theorem place_deq {c : Cfg} (hg : Good c) {t : T3} (i : Nat) (hi : (i : Int) < c.mks) (ht : t ∈ tDeq1 c.dq.toNat i) (hk : 8 ≤ t.k) (ha : t.a = (i : Int)) : placeT c t = idxT (tDeq1 c.dq.toNat i) t (dqsI c + i * (2 + c.dq)).toNat := by
  have hq : 2 ≤ c.dq ∧ c.dq ≤ 8 := by unfold Good at hg; omega
  have hd := dqs_bound hg
  rw [place_past hg hk, idxT_left _ (tDeq_mem.2 ⟨i, by omega, ht⟩)]
  unfold tDeq
  rw [idxT_sections (by omega) ht (fun j hj h => by have := deq_only h ha; omega)]
  have := tDeq_len c.dq.toNat i
  unfold tDeq at this
  rw [this]
  congr 1
  have h1 : (0 : Int) ≤ i * (2 + c.dq) := Int.mul_nonneg (by omega) (by omega)
  rw [Int.toNat_add (by omega) h1, Int.toNat_mul (by omega) (by omega)]
  simp only [Int.toNat_natCast]
  rw [show (2 + c.dq).toNat = 2 + c.dq.toNat from by omega]

theorem deq_none {c : Cfg} (hg : Good c) {t : T3} (hk : 8 ≤ t.k ∧ t.k ≤ 10) (h : ∀ i : Nat, (i : Int) < c.mks → t ∉ tDeq1 c.dq.toNat i) : placeT c t = -1 := by
  rw [place_past hg hk.1, idxT_none]
  simp only [List.mem_append, not_or]
  refine ⟨fun hm => ?_, fun hm => ?_, fun hm => ?_⟩
  · obtain ⟨i, hi, hm⟩ := tDeq_mem.1 hm
    exact h i (by omega) hm
  · have := tPk_k hm; omega
  · have := tNd_k hm; omega

theorem place_end {c : Cfg} (hg : Good c) (i j : Int) (hj : j = 0 ∨ j = 1) : placeT c ⟨8 + j, i, 0⟩ = pEnd c i j := by
  have hq : 2 ≤ c.dq ∧ c.dq ≤ 8 := by unfold Good at hg; omega
  have hd := dqs_bound hg
  unfold pEnd
  split
  · next h =>
    obtain ⟨m, rfl⟩ : ∃ m : Nat, i = m := ⟨i.toNat, by omega⟩
    have h1 : (0 : Int) ≤ m * (2 + c.dq) := Int.mul_nonneg (by omega) (by omega)
    rw [place_deq hg m h.2 (tDeq1_mem.2 (by rcases hj with rfl | rfl; exact .inl rfl; exact .inr (.inl rfl))) (by simp; omega) rfl]
    unfold tDeq1
    rcases hj with rfl | rfl
    · simp only [List.cons_append, idxT]; simp; omega
    · simp only [List.cons_append, idxT]; simp; omega
  · next h =>
    refine deq_none hg ⟨by simp; omega, by simp; omega⟩ (fun m hm ht => ?_)
    rcases tDeq1_mem.1 ht with e | e | ⟨q, _, e⟩ <;> · simp at e; omega

theorem place_entry {c : Cfg} (hg : Good c) (i j : Int) : placeT c ⟨10, i, j⟩ = pEntry c i j := by
  have hq : 2 ≤ c.dq ∧ c.dq ≤ 8 := by unfold Good at hg; omega
  have hd := dqs_bound hg
  by_cases h : (0 ≤ j ∧ j < c.dq) ∧ (0 ≤ i ∧ i < c.mks)
  · unfold pEntry pEnd
    rw [if_pos h.1, if_pos h.2]
    obtain ⟨⟨j0, j1⟩, i0, i1⟩ := h
    obtain ⟨m, rfl⟩ : ∃ m : Nat, i = m := ⟨i.toNat, by omega⟩
    obtain ⟨q, rfl⟩ : ∃ q : Nat, j = q := ⟨j.toNat, by omega⟩
    have h1 : (0 : Int) ≤ m * (2 + c.dq) := Int.mul_nonneg (by omega) (by omega)
    rw [place_deq hg m i1 (tDeq1_mem.2 (.inr (.inr ⟨q, by omega, rfl⟩))) (by simp) rfl]
    unfold tDeq1
    rw [idxT_right _ (by simp)]
    have := idxT_row (f := fun (j : Nat) => (⟨10, m, j⟩ : T3)) (fun a b e => by simp at e; omega) (show q < c.dq.toNat by omega) ((dqsI c + m * (2 + c.dq)).toNat + 2)
    unfold tEntry
    simp only [List.length_cons, List.length_nil]
    rw [this]; simp; omega
  · rw [deq_none hg ⟨by simp, by simp⟩ (fun m hm ht => by
      rcases tDeq1_mem.1 ht with e | e | ⟨q, hq, e⟩
      · simp at e
      · simp at e
      · simp at e; exact h ⟨⟨by omega, by omega⟩, by omega, by omega⟩)]
    unfold pEntry pEnd
    split
    · rw [if_neg (fun h2 => h ⟨by omega, h2⟩)]
    · rfl

theorem pk_only {i j : Nat} {t : T3} (h : t ∈ tPk1 i) (e : t.a = (j : Int) + 1) : i = j := by
  rcases tPk1_mem.1 h with rfl | rfl | ⟨q, _, rfl⟩ <;> · simp at e; omega

/-- A thing of a packet's. -/
theorem place_pk {c : Cfg} (hg : Good c) {t : T3} (i : Nat) (hi : (i : Int) < manyI c) (ht : t ∈ tPk1 i) (hk : 11 ≤ t.k) (ha : t.a = (i : Int) + 1) : placeT c t = idxT (tPk1 i) t (pksI c + i * 6).toNat := by
  have hq : 2 ≤ c.dq ∧ c.dq ≤ 8 := by unfold Good at hg; omega
  have hm : 1 ≤ c.mks := by unfold Good at hg; omega
  have hd := dqs_bound hg
  rw [place_past hg (by omega), idxT_right _ (fun h => by have := tDeq_k h; omega), idxT_left _ (tPk_mem.2 ⟨i, by omega, ht⟩)]
  unfold tPk
  rw [idxT_sections (by omega) ht (fun j hj h => by have := pk_only h ha; omega)]
  have := tPk_len i
  unfold tPk at this
  rw [this, tDeq_len]
  congr 1
  unfold pksI
  have h1 : (0 : Int) ≤ c.mks * (2 + c.dq) := Int.mul_nonneg (by omega) (by omega)
  rw [Int.toNat_add (by omega) (by omega), Int.toNat_add (by omega) h1, Int.toNat_mul (by omega) (by omega)]
  rw [show (2 + c.dq).toNat = 2 + c.dq.toNat from by omega]
  omega

theorem pk_none {c : Cfg} (hg : Good c) {t : T3} (hk : 11 ≤ t.k ∧ t.k ≤ 13) (h : ∀ i : Nat, (i : Int) < manyI c → t ∉ tPk1 i) : placeT c t = -1 := by
  rw [place_past hg (by omega), idxT_none]
  simp only [List.mem_append, not_or]
  refine ⟨fun hm => ?_, fun hm => ?_, fun hm => ?_⟩
  · have := tDeq_k hm; omega
  · obtain ⟨i, hi, hm⟩ := tPk_mem.1 hm
    exact h i (by omega) hm
  · have := tNd_k hm; omega

theorem place_pack {c : Cfg} (hg : Good c) (p j : Int) (hj : j = 0 ∨ j = 1) : placeT c ⟨11 + j, p, 0⟩ = pPack c p j := by
  have hd := dqs_bound hg
  unfold pPack
  split
  · next h =>
    obtain ⟨m, hm⟩ : ∃ m : Nat, p = (m : Int) + 1 := ⟨(p - 1).toNat, by omega⟩
    subst hm
    rw [place_pk hg m (by omega) (tPk1_mem.2 (by rcases hj with rfl | rfl; exact .inl rfl; exact .inr (.inl rfl))) (by simp; omega) rfl]
    unfold tPk1
    rcases hj with rfl | rfl
    · simp only [List.cons_append, idxT]; simp; omega
    · simp only [List.cons_append, idxT]; simp; omega
  · next h =>
    refine pk_none hg ⟨by simp; omega, by simp; omega⟩ (fun m hm ht => ?_)
    rcases tPk1_mem.1 ht with e | e | ⟨q, _, e⟩ <;> · simp at e; omega

theorem place_task {c : Cfg} (hg : Good c) (p j : Int) : placeT c ⟨13, p, j⟩ = pTask c p j := by
  have hd := dqs_bound hg
  by_cases h : (0 ≤ j ∧ j < 4) ∧ (1 ≤ p ∧ p ≤ manyI c)
  · unfold pTask pPack
    rw [if_pos h.1, if_pos h.2]
    obtain ⟨⟨j0, j1⟩, i0, i1⟩ := h
    obtain ⟨m, hm⟩ : ∃ m : Nat, p = (m : Int) + 1 := ⟨(p - 1).toNat, by omega⟩
    subst hm
    obtain ⟨q, rfl⟩ : ∃ q : Nat, j = q := ⟨j.toNat, by omega⟩
    rw [place_pk hg m (by omega) (tPk1_mem.2 (.inr (.inr ⟨q, by omega, rfl⟩))) (by simp) rfl]
    unfold tPk1
    rw [idxT_right _ (by simp)]
    have := idxT_row (f := fun (j : Nat) => (⟨13, (m : Int) + 1, j⟩ : T3)) (fun a b e => by simp at e; omega) (show q < 4 by omega) ((pksI c + m * 6).toNat + 2)
    unfold tTask
    simp only [List.length_cons, List.length_nil]
    rw [this]; simp; omega
  · rw [pk_none hg ⟨by simp, by simp⟩ (fun m hm ht => by
      rcases tPk1_mem.1 ht with e | e | ⟨q, hq, e⟩
      · simp at e
      · simp at e
      · simp at e; exact h ⟨⟨by omega, by omega⟩, by omega, by omega⟩)]
    unfold pTask pPack
    split
    · rw [if_neg (fun h2 => h ⟨by omega, h2⟩)]
    · rfl

theorem nd_only {rs : List Int} {i j : Nat} {t : T3} (h : t ∈ tNd1 rs i) (e : t.a = (j : Int) + 1) : i = j := by
  rcases tNd1_mem.1 h with ⟨q, _, rfl⟩ | ⟨q, _, rfl⟩ <;> · simp at e; omega

/-- A thing of a node's. -/
theorem place_nd {c : Cfg} (hg : Good c) {t : T3} (i : Nat) (hi : i < nN c) (ht : t ∈ tNd1 (rooms c) i) (hk : 14 ≤ t.k) (ha : t.a = (i : Int) + 1) : placeT c t = idxT (tNd1 (rooms c) i) t (atI c i).toNat := by
  have hq : 2 ≤ c.dq ∧ c.dq ≤ 8 := by unfold Good at hg; omega
  have hm : 1 ≤ c.mks := by unfold Good at hg; omega
  have hd := dqs_bound hg
  have hmb := manyI_bound hg
  rw [place_past hg (by omega), idxT_right _ (fun h => by have := tDeq_k h; omega), idxT_right _ (fun h => by have := tPk_k h; omega)]
  have hl := tNd_len (c := c) i (by omega)
  have hb := at_bound c hg i
  unfold tNd at hl ⊢
  rw [idxT_sections hi ht (fun j hj h => by have := nd_only h ha; omega), tDeq_len, tPk_len]
  congr 1
  unfold atI node0I pksI
  rw [← hl]
  have h1 : (0 : Int) ≤ c.mks * (2 + c.dq) := Int.mul_nonneg (by omega) (by omega)
  rw [Int.toNat_add (by omega) (by omega), Int.toNat_add (by omega) (by omega), Int.toNat_add (by omega) h1, Int.toNat_mul (by omega) (by omega), Int.toNat_mul (by omega) (by omega)]
  rw [show (2 + c.dq).toNat = 2 + c.dq.toNat from by omega]
  simp

theorem nd_none {c : Cfg} (hg : Good c) {t : T3} (hk : 14 ≤ t.k) (h : ∀ i : Nat, i < nN c → t ∉ tNd1 (rooms c) i) : placeT c t = -1 := by
  rw [place_past hg (by omega), idxT_none]
  simp only [List.mem_append, not_or]
  refine ⟨fun hm => ?_, fun hm => ?_, fun hm => ?_⟩
  · have := tDeq_k hm; omega
  · have := tPk_k hm; omega
  · obtain ⟨i, hi, hm⟩ := tNd_mem.1 hm
    exact h i (by omega) hm

theorem place_node {c : Cfg} (hg : Good c) (v j : Int) (h0 : 0 ≤ j) (h1 : j < 4) : placeT c ⟨14 + j, v, 0⟩ = pNode c v j := by
  unfold pNode
  split
  · next h =>
    obtain ⟨m, hm⟩ : ∃ m : Nat, v = (m : Int) + 1 := ⟨(v - 1).toNat, by omega⟩
    subst hm
    obtain ⟨q, rfl⟩ : ∃ q : Nat, j = q := ⟨j.toNat, by omega⟩
    have hb := atI_bound hg m
    rw [place_nd hg m (by omega) (tNd1_mem.2 (.inl ⟨q, by omega, rfl⟩)) (by simp; omega) rfl]
    unfold tNd1
    rw [idxT_left _ (show (⟨14 + (q : Int), (m : Int) + 1, 0⟩ : T3) ∈ tWord ((m : Int) + 1) 4 from row_mem.2 ⟨q, by omega, rfl⟩)]
    have := idxT_row (f := fun (j : Nat) => (⟨14 + (j : Int), (m : Int) + 1, 0⟩ : T3)) (fun a b e => by simp at e; omega) (show q < 4 by omega) (atI c m).toNat
    unfold tWord
    rw [this, show ((m : Int) + 1 - 1).toNat = m from by omega]; omega
  · next h =>
    refine nd_none hg (by simp; omega) (fun m hm ht => ?_)
    rcases tNd1_mem.1 ht with ⟨q, _, e⟩ | ⟨q, _, e⟩ <;> · simp at e; omega

theorem place_slot {c : Cfg} (hg : Good c) (v i : Int) : placeT c ⟨18, v, i⟩ = pSlot c v i := by
  by_cases h : (1 ≤ v ∧ v ≤ nN c) ∧ 0 ≤ i ∧ i < room c v
  · unfold pSlot pNode
    rw [if_pos h.2, if_pos h.1]
    obtain ⟨⟨v0, v1⟩, i0, i1⟩ := h
    unfold room at i1
    rw [if_pos ⟨v0, v1⟩] at i1
    obtain ⟨m, hm⟩ : ∃ m : Nat, v = (m : Int) + 1 := ⟨(v - 1).toNat, by omega⟩
    subst hm
    rw [show ((m : Int) + 1 - 1).toNat = m from by omega] at i1 ⊢
    obtain ⟨q, rfl⟩ : ∃ q : Nat, i = q := ⟨i.toNat, by omega⟩
    have hb := atI_bound hg m
    rw [place_nd hg m (by omega) (tNd1_mem.2 (.inr ⟨q, by omega, rfl⟩)) (by simp) rfl]
    unfold tNd1
    rw [idxT_right _ (fun hm => by obtain ⟨q, hq, e⟩ := row_mem.1 hm; simp at e; omega)]
    have := idxT_row (f := fun (j : Nat) => (⟨18, (m : Int) + 1, j⟩ : T3)) (fun a b e => by simp at e; omega) (show q < ((rooms c)[m]?.getD 0).toNat by omega) ((atI c m).toNat + 4)
    unfold tSlot
    rw [show (tWord ((m : Int) + 1) 4).length = 4 from by simp [tWord], this]; omega
  · rw [nd_none hg (by simp) (fun m hm ht => by
      rcases tNd1_mem.1 ht with ⟨q, hq, e⟩ | ⟨q, hq, e⟩
      · simp at e; omega
      · simp at e
        refine h ⟨by omega, by omega, ?_⟩
        unfold room
        rw [if_pos (by omega), show (v - 1).toNat = m from by omega]; omega)]
    unfold pSlot
    split
    · next h2 =>
      unfold pNode
      rw [if_neg (fun h3 => h ⟨h3, h2⟩)]
    · rfl

end Go.Proofs.YtfbcadknimfhjaaGreat

namespace Go.Proofs.YtfbcadknimfhjaaGreat
open Go.RowKit

theorem slotsI_succ {j : Nat} (h : j < 4) : slotsI ((j + 1 : Nat) : Int) = slotsI j * 2 := by
  have : j = 0 ∨ j = 1 ∨ j = 2 ∨ j = 3 := by omega
  rcases this with rfl | rfl | rfl | rfl <;> rfl

theorem refslots_any (k : Nat) (hk : k < 5) (w : World) :
    Calls Tryz.prog 85 #[.int .i64 k] w fun e w' => e = .returned (.int .i64 (slotsI k)) ∧ w = w' := by
  go_enter Tryz.func85, Tryz.ntmps85
  go_wp2_with fail
  go_loop [3, 4] (fun n i => ∃ j : Nat, j ≤ k ∧ i = .int .i64 j ∧ n = .int .i64 (slotsI j)) (fun _ i => k - (intOf i).toNat)
  case atStart => exact ⟨0, by omega, rfl, rfl⟩
  case round =>
    obtain ⟨j, hj, rfl, rfl⟩ := hrel
    by_cases hlt : (j : Int) < k
    · have hb := slotsI_bound j
      obtain ⟨hb0, hb1⟩ := hb
      have S1 : Hid (slotsI ((j + 1 : Nat) : Int) = slotsI j * 2) := slotsI_succ (by omega)
      generalize slotsI j = x at *
      go_wp2_with fail
      refine ⟨⟨j + 1, by omega, by go_num, by rw [S1.out]⟩, by simp [intOf]; omega⟩
    · obtain rfl : j = k := by omega
      go_wp2_with fail
      go_ret
      exact ⟨rfl, rfl⟩

def okCells (cs : List Int) : Prop := cs.length = 5 ∧ ∀ k, k < 5 → 0 ≤ cs[k]?.getD 0 ∧ cs[k]?.getD 0 ≤ 12

/-- The class of each cell: the first k classes' cells. -/
def classesI (cs : List Int) (k : Nat) : List Int := (List.range k).flatMap fun (i : Nat) => List.replicate (cs[i]?.getD 0).toNat (i : Int)

theorem classesI_succ (cs : List Int) (k : Nat) : classesI cs (k + 1) = classesI cs k ++ List.replicate (cs[k]?.getD 0).toNat (k : Int) := by
  unfold classesI; rw [List.range_succ, List.flatMap_append]; simp

theorem classesI_mem (cs : List Int) (k : Nat) : ∀ x ∈ classesI cs k, ∃ i : Nat, i < k ∧ x = i := by
  intro x hx
  unfold classesI at hx
  simp only [List.mem_flatMap, List.mem_range, List.mem_replicate] at hx
  obtain ⟨i, hi, _, rfl⟩ := hx
  exact ⟨i, hi, rfl⟩

theorem classesI_len (cs : List Int) (h : okCells cs) : ∀ k, k ≤ 5 → (classesI cs k).length ≤ 12 * k
  | 0, _ => by simp [classesI]
  | k + 1, hk => by
    have := classesI_len cs h k (by omega)
    have := h.2 k (by omega)
    rw [classesI_succ]; simp; omega

theorem classes_any (a b c d e : Int) (w : World) (hok : okCells [a, b, c, d, e]) :
    Calls Tryz.prog 84 #[.agg #[.int .i64 a, .int .i64 b, .int .i64 c, .int .i64 d, .int .i64 e]] w fun r w' =>
      ∃ v, r = .returned v ∧ w'.ownsRow w.heap.size 3 1 v (classesI [a, b, c, d, e] 5).length ((classesI [a, b, c, d, e] 5).map (Value.int .i64)) ∧ Kept w w' := by
  obtain ⟨i0, hi, hz0, hz1, hz2⟩ := info_parts info_int
  go_enter Tryz.func84, Tryz.ntmps84
  go_wp2_with fail
  have hbx : Blk (w.alloc (.cells #[.int .i64 a, .int .i64 b, .int .i64 c, .int .i64 d, .int .i64 e] 22)) w.heap.size 22 (([a, b, c, d, e] : List Int).map (Value.int .i64)) := Blk.new w _ _
  generalize hcs : ([a, b, c, d, e] : List Int) = cs at *
  go_loopw [3, 4] (fun v i wr => ∃ k : Nat, k ≤ 5 ∧ i = .int .i64 k ∧ wr.ownsRow (w.heap.size + 1) 3 1 v (classesI cs k).length ((classesI cs k).map (Value.int .i64)) ∧ Kept (w.alloc (.cells #[.int .i64 a, .int .i64 b, .int .i64 c, .int .i64 d, .int .i64 e] 22)) wr) (fun _ i _ => 5 - (intOf i).toNat)
  case atStart => exact ⟨0, by omega, rfl, World.ownsRow_nil _ _ _ _, Below.refl _ _⟩
  case round =>
    obtain ⟨k, hk, rfl, hown, hb⟩ := hrel
    by_cases hlti : (k : Int) < 5
    · have hlt : k < 5 := by omega
      have hrange := hok.2 k hlt
      obtain ⟨hr0, hr1⟩ := hrange
      have hlen := classesI_len cs hok k hk
      obtain ⟨m, hm⟩ : ∃ m : Nat, cs[k]?.getD 0 = m := ⟨(cs[k]?.getD 0).toNat, by omega⟩
      have HM : Hid (cs[k]?.getD 0 = m) := hm
      have hcell : ∀ W, Kept (w.alloc (.cells #[.int .i64 a, .int .i64 b, .int .i64 c, .int .i64 d, .int .i64 e] 22)) W → W.cell? ⟨w.heap.size, k, none⟩ = some (.int .i64 m) := fun W hW => by
        rw [(hW.blk hbx).cell k, ← hm]
        have : k < cs.length := by rw [hok.1]; omega
        simp [List.getElem?_eq_getElem this]
      have HC : Hid (∀ W, Kept (w.alloc (.cells #[.int .i64 a, .int .i64 b, .int .i64 c, .int .i64 d, .int .i64 e] 22)) W → W.cell? ⟨w.heap.size, k, none⟩ = some (.int .i64 m)) := hcell
      rw [hm] at hr0 hr1
      clear hm hcell
      go_wp2_with fail
      go_loopw [3, 5] (fun v j wx => ∃ q : Nat, q ≤ m ∧ j = .int .i64 q ∧ wx.ownsRow (w.heap.size + 1) 3 1 v ((classesI cs k).length + q) ((classesI cs k ++ List.replicate q (k : Int)).map (Value.int .i64)) ∧ Kept (w.alloc (.cells #[.int .i64 a, .int .i64 b, .int .i64 c, .int .i64 d, .int .i64 e] 22)) wx) (fun _ j _ => m - (intOf j).toNat)
      case atStart => exact ⟨0, by omega, rfl, by simpa using hown, hb⟩
      case round =>
        obtain ⟨q, hq, rfl, hown2, hb2⟩ := hrel
        have hcq := HC.out _ hb2
        by_cases hlt2 : (q : Int) < m
        · have hq12 : (q : Int) < 12 := by omega
          go_wp2_with (at_builtin; refine wpList_append_own _ rfl _ _ 50 rfl (w.heap.size + 1) 3 i0 (.int .i64 0) 1 8 Tryz.underlying50 hi hz0 hz1 hz2 rfl (by decide) _ _ _ rfl (hown2.alloc _) ⟨wr.heap.size, 0, none⟩ 1 1 [.int .i64 k] rfl rfl ?c1 ?c2 ?c3 ?c4 ?c5 ?_)
          case c1 => intro j u hj; match j, hj with | 0, hj => simp at hj; subst hj; simp [Addr.add]
          case c2 => intro u hu; simp at hu; subst hu; rfl
          case c3 => unfold maxLen; omega
          case c4 => omega
          case c5 => have := hb2.size; simp at this ⊢; omega
          intro v' w1 hown' hgrow _
          go_wp2
          go_roundw
          case rel =>
            refine ⟨q + 1, by omega, by go_num, ?_, ?_⟩
            · rw [List.replicate_succ', ← List.append_assoc, List.map_append]
              simpa [Nat.add_assoc] using hown'
            · exact (hb2.alloc (by have := hb2.size; omega) _).grown hgrow (by have := hb2.size; simp at this ⊢; omega) (fun g hg => by have := (ownsRow_base hown2 g hg).1; simpa using this)
          case measure => simp [intOf]; omega
        · obtain rfl : q = m := by omega
          go_wp2
          go_roundw
          case rel =>
            refine ⟨k + 1, by omega, by go_num, ?_, hb2⟩
            rw [classesI_succ, HM.out]; simpa using hown2
          case measure => simp [intOf]; omega
    · obtain rfl : k = 5 := by omega
      go_wp2_with fail
      go_ret
      refine ⟨_, rfl, ?_, ((Below.refl _ _).alloc (Nat.le_refl _) _).trans (hb.mono (by simp))⟩
      exact ownsRow_mono hown (Nat.le_succ _)

def cellsL (c : Cfg) : List Int := [c.c0, c.c1, c.c2, c.c3, c.c4]

theorem good_cells {c : Cfg} (h : Good c) : okCells (cellsL c) := by
  obtain ⟨h0, h1, h2, h3, h4, _⟩ := h
  refine ⟨rfl, fun k hk => ?_⟩
  have : k = 0 ∨ k = 1 ∨ k = 2 ∨ k = 3 ∨ k = 4 := by omega
  rcases this with rfl | rfl | rfl | rfl | rfl
  · exact h0
  · exact h1
  · exact h2
  · exact h3
  · exact h4

theorem classes_is (c : Cfg) : classesI (cellsL c) 5 = clsL c := by
  simp [classesI, clsL, cellsL, List.range_succ]

theorem rooms_ref (c : Cfg) (w : World) (hg : Good c) :
    Calls Tryz.prog 65 #[.agg #[.int .i64 c.c0, .int .i64 c.c1, .int .i64 c.c2, .int .i64 c.c3, .int .i64 c.c4, .int .i64 c.mks, .int .i64 c.mus, .int .i64 c.dq, .int .i64 c.ch, .int .i64 c.bu, .int .i64 c.ro, .int .i64 c.sw]] w fun r w' =>
      ∃ v, r = .returned v ∧ w'.ownsRow w.heap.size 3 1 v (rooms c).length ((rooms c).map (Value.int .i64)) ∧ Kept w w' := by
  obtain ⟨i0, hi, hz0, hz1, hz2⟩ := info_parts info_int
  have hok := good_cells hg
  have hcl := classesI_len _ hok 5 (by omega)
  have HR : Hid (rooms c = (classesI (cellsL c) 5).map slotsI) := by show rooms c = _; rw [classes_is]; rfl
  have hmem := classesI_mem (cellsL c) 5
  go_enter Tryz.func65, Tryz.ntmps65
  go_wp2_with fail
  refine (classes_any _ _ _ _ _ _ hok).mono ?_; rintro e w1 ⟨v1, rfl, hown, hk1⟩
  have hkw : Kept w w1 := ((Below.refl _ _).alloc (Nat.le_refl _) _).trans (hk1.mono (by simp))
  have hsz := hk1.size
  rw [World.size_alloc] at hsz
  have hrow := Row.ofOwn hown
  change Row w1 v1 ((classesI (cellsL c) 5).map (Value.int .i64)) at hrow
  generalize classesI (cellsL c) 5 = l at *
  clear hok hown hk1 hg
  obtain ⟨ao, cap, rfl, hm, hc⟩ := hrow.ex
  rw [List.length_map] at *
  have H : Hid (∀ i, i < l.length → ∃ g, ao = some ⟨g, 0, none⟩ ∧ g < w1.heap.size ∧ w1.cell? ⟨g, i, none⟩ = some (.int .i64 (l[i]?.getD 0))) := fun i hi => by
    refine hc i _ ?_
    simp [List.getElem?_eq_getElem hi]
  clear hc hm hrow
  go_wp2_with fail
  go_loopw [3, 5] (fun v i wr => ∃ k : Nat, k ≤ l.length ∧ i = .int .i64 k ∧ wr.ownsRow w1.heap.size 3 1 v k (((l.take k).map slotsI).map (Value.int .i64)) ∧ Kept w1 wr) (fun _ i _ => l.length - (intOf i).toNat)
  case atStart => exact ⟨0, by omega, rfl, World.ownsRow_nil _ _ _ _, Below.refl _ _⟩
  case round =>
    obtain ⟨k, hk, rfl, hown, hb⟩ := hrel
    by_cases hlt : (k : Int) < l.length
    · obtain ⟨g, rfl, hg, hcell⟩ := H.out k (by omega)
      have hcell' : wr.cell? ⟨g, k, none⟩ = some (.int .i64 (l[k]?.getD 0)) := by rw [Below.cell hb hg]; exact hcell
      obtain ⟨j, hj, hx⟩ : ∃ j : Nat, j < 5 ∧ l[k]?.getD 0 = j := by
        have hkl : k < l.length := by omega
        obtain ⟨j, hj, he⟩ := hmem (l[k]'hkl) (List.getElem_mem _)
        exact ⟨j, hj, by rw [List.getElem?_eq_getElem hkl]; simpa using he⟩
      have S1 : Hid (((l.take (k + 1)).map slotsI).map (Value.int .i64) = ((l.take k).map slotsI).map (Value.int .i64) ++ [.int .i64 (slotsI j)]) := by
        unfold Hid
        rw [List.take_add_one, List.map_append, List.map_append]
        have hkl : k < l.length := by omega
        rw [List.getElem?_eq_getElem hkl] at hx ⊢
        simp at hx
        simp [hx]
      rw [hx] at hcell'
      clear hx hcell hmem
      go_wp2_with fail
      refine (refslots_any j hj _).mono ?_; rintro e w2 ⟨rfl, rfl⟩
      go_wp2_with (at_builtin; refine wpList_append_own _ rfl _ _ 50 rfl w1.heap.size 3 i0 (.int .i64 0) 1 8 Tryz.underlying50 hi hz0 hz1 hz2 rfl (by decide) _ _ _ rfl (hown.alloc _) ⟨wr.heap.size, 0, none⟩ 1 1 [.int .i64 (slotsI j)] rfl rfl ?c1 ?c2 ?c3 ?c4 ?c5 ?_)
      case c1 => intro j u hj; match j, hj with | 0, hj => simp at hj; subst hj; simp [Addr.add]
      case c2 => intro u hu; simp at hu; subst hu; rfl
      case c3 => unfold maxLen; omega
      case c4 => omega
      case c5 => have := hb.size; simp at this ⊢; omega
      intro v' w3 hown' hgrow _
      go_wp2
      go_roundw
      case rel =>
        refine ⟨k + 1, by omega, by go_num, by rw [S1.out]; simpa using hown', ?_⟩
        exact (hb.alloc (by have := hb.size; omega) _).grown hgrow (by have := hb.size; simp at this ⊢; omega) (fun g hg => (ownsRow_base hown g hg).1)
      case measure => simp [intOf]; omega
    · obtain rfl : k = l.length := by omega
      go_wp2_with fail
      go_ret
      refine ⟨_, rfl, ?_, hkw.trans' hb⟩
      rw [HR.out, List.length_map]
      have := ownsRow_mono hown hkw.size
      simpa using this

/-- A number of a row that is owned. -/
theorem row_nums {w : World} {base : Nat} {v : Value} {n : Nat} {xs : List Int} (h : w.ownsRow base 3 1 v n (xs.map (Value.int .i64))) : ∃ ao cap, v = .slice ao xs.length cap ∧ ∀ i, i < xs.length → ∃ g, ao = some ⟨g, 0, none⟩ ∧ g < w.heap.size ∧ w.cell? ⟨g, i, none⟩ = some (.int .i64 (xs[i]?.getD 0)) := by
  obtain ⟨ao, cap, rfl, _, hc⟩ := (Row.ofOwn h).ex
  refine ⟨ao, cap, by rw [List.length_map], fun i hi => ?_⟩
  obtain ⟨g, e, hl, h⟩ := hc i (.int .i64 (xs[i]'hi)) (by simp [List.getElem?_eq_getElem hi])
  exact ⟨g, e, hl, by rw [h, List.getElem?_eq_getElem hi]; rfl⟩

set_option maxRecDepth 8000 in
set_option maxHeartbeats 1600000 in
theorem packets_ref (c : Cfg) (w : World) (hg : Good c) :
    Calls Tryz.prog 32 #[.agg #[.int .i64 c.c0, .int .i64 c.c1, .int .i64 c.c2, .int .i64 c.c3, .int .i64 c.c4, .int .i64 c.mks, .int .i64 c.mus, .int .i64 c.dq, .int .i64 c.ch, .int .i64 c.bu, .int .i64 c.ro, .int .i64 c.sw]] w fun r w' => r = .returned (.int .i64 (manyI c)) ∧ Kept w w' := by
  have Hg : Hid (Good c) := hg
  have hb := Blk.new w 37 [.int .i64 c.c0, .int .i64 c.c1, .int .i64 c.c2, .int .i64 c.c3, .int .i64 c.c4, .int .i64 c.mks, .int .i64 c.mus, .int .i64 c.dq, .int .i64 c.ch, .int .i64 c.bu, .int .i64 c.ro, .int .i64 c.sw]
  have hk0 : Kept w (w.alloc (.cells ([.int .i64 c.c0, .int .i64 c.c1, .int .i64 c.c2, .int .i64 c.c3, .int .i64 c.c4, .int .i64 c.mks, .int .i64 c.mus, .int .i64 c.dq, .int .i64 c.ch, .int .i64 c.bu, .int .i64 c.ro, .int .i64 c.sw] : List Value).toArray 37)) := (Below.refl _ _).alloc (Nat.le_refl _) _
  have hn := nN_bound hg
  obtain ⟨hn0, hn1⟩ := hn
  obtain ⟨_, _, _, _, _, ⟨hm0, hm1⟩, ⟨hu0, hu1⟩, ⟨hd0, hd1⟩, ⟨hc0, hc1⟩, _⟩ := hg
  have c5 := hb.cell 5
  have c6 := hb.cell 6
  have c8 := hb.cell 8
  simp only [List.getElem?_cons_zero, List.getElem?_cons_succ] at c5 c6 c8
  go_enter Tryz.func32, Tryz.ntmps32
  go_wp2_with fail
  refine (rooms_ref c _ Hg.out).mono ?_; rintro e w2 ⟨v2, rfl, hown, hk2⟩
  have hb2 := hk2.blk hb
  have hK2 : Kept w w2 := hk0.trans' hk2
  obtain ⟨ao, cap, rfl, hcells⟩ := row_nums hown
  rw [show (rooms c).length = nN c from rfl] at hcells ⊢
  have HC : Hid (∀ i, i < nN c → ∃ g, ao = some ⟨g, 0, none⟩ ∧ g < w2.heap.size ∧ w2.cell? ⟨g, i, none⟩ = some (.int .i64 ((rooms c)[i]?.getD 0))) := hcells
  clear hcells hown hk2 hb hk0 c5 c6 c8
  have c5 := hb2.cell 5
  have c6 := hb2.cell 6
  have c8 := hb2.cell 8
  simp only [List.getElem?_cons_zero, List.getElem?_cons_succ] at c5 c6 c8
  have y0 : IntKind.i64.wrap (2 * c.mks) = 2 * c.mks := IntWalk.i64_in _ (by omega)
  have y1 : IntKind.i64.wrap ((nN c : Int) + 2 * c.mks) = nN c + 2 * c.mks := IntWalk.i64_in _ (by omega)
  have y2 : IntKind.i64.wrap ((nN c : Int) + 2 * c.mks + c.mus) = nN c + 2 * c.mks + c.mus := IntWalk.i64_in _ (by omega)
  have hm0' : manyTo c 0 = nN c + 2 * c.mks + c.mus := by unfold manyTo; simp [sumI]
  go_wp2_with fail
  rw [← hm0']
  clear hm0' y0 y1 y2 c5 c6
  go_loopw [4, 5] (fun n i wr => ∃ k : Nat, k ≤ nN c ∧ i = .int .i64 k ∧ n = .int .i64 (manyTo c k) ∧ ∃ m, wr = w2.drewN m) (fun _ i _ => nN c - (intOf i).toNat)
  case atStart => exact ⟨0, by omega, rfl, rfl, 0, rfl⟩
  case round =>
    obtain ⟨k, hk, rfl, rfl, m, rfl⟩ := hrel
    by_cases hlt : (k : Int) < nN c
    · have hlt' : k < nN c := by omega
      obtain ⟨g, rfl, hgl, hcell⟩ := HC.out k hlt'
      obtain ⟨r, hr⟩ : ∃ r, r = (rooms c)[k]?.getD 0 := ⟨_, rfl⟩
      have hrb := rooms_get hlt'
      rw [← hr] at hcell hrb
      obtain ⟨hrb0, hrb1⟩ := hrb
      have HM : Hid (manyTo c k + (r + c.ch - 1) / c.ch = manyTo c (k + 1)) := by unfold Hid; rw [manyTo_succ hlt', ← hr]
      have hmb := manyTo_bound Hg.out k
      obtain ⟨hmb0, hmb1⟩ := hmb
      generalize manyTo c k = M at *
      clear hr
      have y1 : IntKind.i64.wrap (r + c.ch) = r + c.ch := IntWalk.i64_in _ (by omega)
      have y2 : IntKind.i64.wrap (r + c.ch - 1) = r + c.ch - 1 := IntWalk.i64_in _ (by omega)
      have y0 : ¬ c.ch = 0 := by omega
      have yd : (r + c.ch - 1).tdiv c.ch = (r + c.ch - 1) / c.ch := Int.tdiv_eq_ediv_of_nonneg (by omega)
      have yb : 0 ≤ (r + c.ch - 1) / c.ch ∧ (r + c.ch - 1) / c.ch ≤ 40 := by
        refine ⟨Int.ediv_nonneg (by omega) (by omega), ?_⟩
        have : (r + c.ch - 1) / c.ch < 41 := by
          rw [Int.ediv_lt_iff_lt_mul (by omega)]; omega
        omega
      obtain ⟨yb0, yb1⟩ := yb
      have y3 : IntKind.i64.wrap ((r + c.ch - 1) / c.ch) = (r + c.ch - 1) / c.ch := IntWalk.i64_in _ (by omega)
      have y4 : IntKind.i64.wrap (M + (r + c.ch - 1) / c.ch) = M + (r + c.ch - 1) / c.ch := IntWalk.i64_in _ (by omega)
      go_wp2_with fail
      go_quiet (fail)
      go_wp2_with fail
      go_roundw
      case rel => exact ⟨k + 1, by omega, by go_num, by rw [HM.out], _, rfl⟩
      case measure => simp [intOf]; omega
    · obtain rfl : k = nN c := by omega
      have hMk : manyTo c (nN c) = manyI c := by unfold manyTo manyI; rw [List.take_of_length_le (by simp [nN])]
      rw [hMk]
      go_wp2_with fail
      go_ret
      exact ⟨rfl, below_drewN hK2 m⟩

end Go.Proofs.YtfbcadknimfhjaaGreat

namespace Go.Proofs.YtfbcadknimfhjaaGreat
open Go.RowKit

theorem info_T : (Tryz.prog.info? 112).map (fun i => (i.zero, i.size, i.bytes)) = some (some (.agg #[.int .i64 0, .int .i64 0, .int .i64 0]), 3, 24) := by kernel_rfl

def flatT (L : List T3) : List Value := L.flatMap fun t => [.int .i64 t.k, .int .i64 t.a, .int .i64 t.b]

theorem flatT_append (A B : List T3) : flatT (A ++ B) = flatT A ++ flatT B := by simp [flatT]

theorem flatT_len (L : List T3) : (flatT L).length = L.length * 3 := by
  induction L with
  | nil => rfl
  | cons t L ih => simp only [flatT, List.flatMap_cons, List.length_append, List.length_cons, List.length_nil] at ih ⊢; omega

theorem flatT_get (L : List T3) (i : Nat) (t : T3) (h : L[i]? = some t) : (flatT L)[3 * i]? = some (.int .i64 t.k) ∧ (flatT L)[3 * i + 1]? = some (.int .i64 t.a) ∧ (flatT L)[3 * i + 2]? = some (.int .i64 t.b) := by
  induction L generalizing i with
  | nil => simp at h
  | cons x L ih =>
    match i, h with
    | 0, h => simp at h; subst h; exact ⟨rfl, rfl, rfl⟩
    | i + 1, h =>
      have := ih i (by simpa using h)
      rw [show 3 * (i + 1) = 3 * i + 1 + 1 + 1 from by omega, show 3 * i + 1 + 1 + 1 + 1 = 3 * i + 1 + 1 + 1 + 1 from rfl]
      exact this

/-- A row of things. -/
abbrev OwnT (w : World) (base : Nat) (v : Value) (L : List T3) : Prop := w.ownsRow base 112 3 v L.length (flatT L)

theorem OwnT.step {w1 wr w2 : World} {v v' : Value} {L : List T3} {t : T3} (hown : OwnT wr w1.heap.size v L) (hb : Kept w1 wr) (hown' : w2.ownsRow w1.heap.size 112 3 v' (L.length + 1) (flatT L ++ [.int .i64 t.k, .int .i64 t.a, .int .i64 t.b])) {o : Obj} (hgrow : (wr.alloc o).grownBy w2 v.ownBlock) : OwnT w2 w1.heap.size v' (L ++ [t]) ∧ Kept w1 w2 := by
  refine ⟨?_, (hb.alloc hb.size _).grown hgrow (by have := hb.size; simp; omega) (fun g hg => (ownsRow_base hown g hg).1)⟩
  rw [OwnT, flatT_append, List.length_append]
  exact hown'

theorem t3_cells (w : World) (a b d : Value) : ∀ (j : Nat) (u : Value), [a, b, d][j]? = some u → (w.alloc (.cells #[a, b, d] 112)).cell? ((⟨w.heap.size, 0, none⟩ : Addr).add j) = some u := by
  intro j u hj
  have h := Blk.new w 112 [a, b, d]
  match j, hj with
  | 0, hj => simp at hj; subst hj; exact h.cell 0
  | 1, hj => simp at hj; subst hj; simp [Addr.add]
  | 2, hj => simp at hj; subst hj; simp [Addr.add]

theorem t3_one (a b d : Int) : ∀ u ∈ ([.int .i64 a, .int .i64 b, .int .i64 d] : List Value), u.oneCell' = true := by
  intro u hu
  simp at hu
  rcases hu with rfl | rfl | rfl <;> rfl

/-- The rooms' row stays, while the things' row grows. -/
def NodeRow (w : World) (gr : Nat) (c : Cfg) (v : Value) : Prop := gr < w.heap.size ∧ (∀ b, v.ownBlock = some b → b ≠ gr) ∧ ∀ i, i < nN c → w.cell? ⟨gr, i, none⟩ = some (.int .i64 ((rooms c)[i]?.getD 0))

theorem cell_of_heap {w w' : World} {g i : Nat} (h : w'.heap[g]? = w.heap[g]?) : w'.cell? ⟨g, i, none⟩ = w.cell? ⟨g, i, none⟩ := by
  unfold World.cell?
  simp only [h]

theorem NodeRow.grown {w w2 : World} {gr gn : Nat} {c : Cfg} {v : Value} {n cap : Nat} {o : Obj} (h : NodeRow w gr c v) (hg : (w.alloc o).grownBy w2 v.ownBlock) (hl : v.ownBlock = some gn ∨ gn = w.heap.size + 1) : NodeRow w2 gr c (.slice (some ⟨gn, 0, none⟩) n cap) := by
  obtain ⟨h1, h2, h3⟩ := h
  have hc : Chg (fun q => v.ownBlock = some q) w w2 := ((Chg.refl _ w).alloc _).grown hg (fun q hq _ => hq)
  refine ⟨Nat.lt_of_lt_of_le h1 hc.size, fun b hb e => ?_, fun i hi => ?_⟩
  · simp [Value.ownBlock] at hb
    rcases hl with hl | hl
    · exact h2 gn hl (by omega)
    · omega
  · rw [← h3 i hi]
    exact cell_of_heap (hc.block gr h1 (fun hq => h2 gr hq rfl))

theorem ownsRow_kept' {w w' : World} {base : Nat} {e : TypeId} {size : Nat} {v : Value} {n : Nat} {xs : List Value} (h : w.ownsRow base e size v n xs) (k : Kept w w') : w'.ownsRow base e size v n xs :=
  ownsRow_chg h (Chg.ofBelow (S := fun _ => False) k) (fun _ _ => id)

theorem own_ne {w : World} {base gr : Nat} {v : Value} {L : List T3} (h : OwnT w base v L) (hg : w.heap.size ≤ gr) : ∀ b, v.ownBlock = some b → b ≠ gr := fun b hb e => by
  have := (ownsRow_base h b hb).2
  omega

theorem row_succ (f : Nat → T3) (n : Nat) : (List.range (n + 1)).map f = (List.range n).map f ++ [f n] := by simp [List.range_succ]

set_option maxRecDepth 8000 in
set_option maxHeartbeats 3200000 in
theorem all_ref (c : Cfg) (w : World) (hg : Good c) :
    Calls Tryz.prog 31 #[.agg #[.int .i64 c.c0, .int .i64 c.c1, .int .i64 c.c2, .int .i64 c.c3, .int .i64 c.c4, .int .i64 c.mks, .int .i64 c.mus, .int .i64 c.dq, .int .i64 c.ch, .int .i64 c.bu, .int .i64 c.ro, .int .i64 c.sw]] w fun r w' => ∃ v, r = .returned v ∧ OwnT w' w.heap.size v (allT c) ∧ Kept w w' := by
  have Hg : Hid (Good c) := hg
  obtain ⟨iT, hiT, hzT0, hzT1, hzT2⟩ := info_parts info_T
  have hb1 := Blk.new w 37 [.int .i64 c.c0, .int .i64 c.c1, .int .i64 c.c2, .int .i64 c.c3, .int .i64 c.c4, .int .i64 c.mks, .int .i64 c.mus, .int .i64 c.dq, .int .i64 c.ch, .int .i64 c.bu, .int .i64 c.ro, .int .i64 c.sw]
  have hk0 : Kept w (w.alloc (.cells ([.int .i64 c.c0, .int .i64 c.c1, .int .i64 c.c2, .int .i64 c.c3, .int .i64 c.c4, .int .i64 c.mks, .int .i64 c.mus, .int .i64 c.dq, .int .i64 c.ch, .int .i64 c.bu, .int .i64 c.ro, .int .i64 c.sw] : List Value).toArray 37)) := (Below.refl _ _).alloc (Nat.le_refl _) _
  have hn := nN_bound hg
  obtain ⟨hn0, hn1⟩ := hn
  have hmb := manyI_bound hg
  obtain ⟨hmb0, hmb1⟩ := hmb
  obtain ⟨_, _, _, _, _, ⟨hm0, hm1⟩, ⟨hu0, hu1⟩, ⟨hd0, hd1⟩, _⟩ := hg
  have HL : Hid (∀ L : List T3, L = (((((tOne ++ tAck c.mus.toNat) ++ tHead) ++ tDeq c.dq.toNat c.mks.toNat) ++ tPk (manyI c).toNat) ++ tNd (rooms c) (nN c)) → L = allT c) := fun L h => by rw [h]; simp [allT, List.append_assoc]
  obtain ⟨mks, hmks⟩ : ∃ m : Nat, c.mks = m := ⟨c.mks.toNat, by omega⟩
  obtain ⟨mus, hmus⟩ : ∃ m : Nat, c.mus = m := ⟨c.mus.toNat, by omega⟩
  obtain ⟨dq, hdq⟩ : ∃ m : Nat, c.dq = m := ⟨c.dq.toNat, by omega⟩
  obtain ⟨many, hmany⟩ : ∃ m : Nat, manyI c = m := ⟨(manyI c).toNat, by omega⟩
  rw [hmks] at hm0 hm1
  rw [hmus] at hu0 hu1
  rw [hdq] at hd0 hd1
  rw [hmany] at hmb0 hmb1
  have HMY : Hid (manyI c = many) := hmany
  have HMS : Hid (c.mks = mks) := hmks
  have HMU : Hid (c.mus = mus) := hmus
  have HDQ : Hid (c.dq = dq) := hdq
  have HL2 : Hid (∀ L : List T3, L = (((((tOne ++ tAck mus) ++ tHead) ++ tDeq dq mks) ++ tPk many) ++ tNd (rooms c) (nN c)) → L = allT c) := by
    have := HL.out
    rw [hmks, hmus, hdq, hmany] at this
    exact this
  clear HL hmany hmks hmus hdq
  go_enter Tryz.func31, Tryz.ntmps31
  go_wp2_with fail
  generalize w.alloc (.cells ([.int .i64 c.c0, .int .i64 c.c1, .int .i64 c.c2, .int .i64 c.c3, .int .i64 c.c4, .int .i64 c.mks, .int .i64 c.mus, .int .i64 c.dq, .int .i64 c.ch, .int .i64 c.bu, .int .i64 c.ro, .int .i64 c.sw] : List Value).toArray 37) = w1 at *
  rw [HMS.out, HMU.out, HDQ.out] at hb1
  go_loopw [3, 4] (fun v i wr => ∃ q : Nat, q ≤ 6 ∧ i = .int .i64 (q) ∧ OwnT wr w1.heap.size v ((List.range q).map fun (j : Nat) => (⟨j, 0, 0⟩ : T3)) ∧ Kept w1 wr) (fun _ i _ => 4000 - (intOf i).toNat)
  case atStart => exact ⟨0, by omega, rfl, World.ownsRow_nil _ _ _ _, Below.refl _ _⟩
  case round =>
    obtain ⟨q, hq, rfl, hown, hb⟩ := hrel
    by_cases hlt : q < 6
    · have hlti : (q : Int) < 6 := by omega
      have HS : Hid (((List.range (q + 1)).map fun (j : Nat) => (⟨j, 0, 0⟩ : T3)) = ((List.range q).map fun (j : Nat) => (⟨j, 0, 0⟩ : T3)) ++ [⟨q, 0, 0⟩]) := row_succ _ _
      have hln : ((List.range q).map fun (j : Nat) => (⟨j, 0, 0⟩ : T3)).length ≤ 100 := by simp; omega
      generalize ((List.range q).map fun (j : Nat) => (⟨j, 0, 0⟩ : T3)) = X at *
      go_wp2_with (at_builtin; refine wpList_append_own _ rfl _ _ 33 rfl w1.heap.size 112 iT (.agg #[.int .i64 0, .int .i64 0, .int .i64 0]) 3 24 Tryz.underlying33 hiT hzT0 hzT1 hzT2 rfl (by decide) _ _ _ rfl (World.ownsRow.alloc hown _) ⟨wr.heap.size, 0, none⟩ 1 1 [.int .i64 (q), .int .i64 (0), .int .i64 (0)] rfl rfl ?c1a ?c1b ?c1c ?c1d ?c1e ?_)
      case c1a => exact t3_cells _ _ _ _
      case c1b => exact t3_one _ _ _
      case c1c => unfold maxLen; omega
      case c1d => omega
      case c1e => have := hb.size; simp; omega
      intro v' w2 hown' hgrow _
      have hstep := OwnT.step (t := ⟨q, 0, 0⟩) hown hb hown' hgrow
      clear hown' hgrow hown hb
      obtain ⟨hown, hb⟩ := hstep
      go_wp2_with fail
      go_roundw
      case rel => exact ⟨q + 1, by omega, by go_num, by rw [HS.out]; exact hown, hb⟩
      case measure => simp [intOf]; omega
    · obtain rfl : q = 6 := by omega
      rw [show ((6 : Nat) : Int) = 6 from rfl]
      obtain ⟨L1, hL1⟩ : ∃ L : List T3, L = tOne := ⟨_, rfl⟩
      rw [show ((List.range 6).map fun (j : Nat) => (⟨j, 0, 0⟩ : T3)) = tOne from rfl] at hown
      rw [← hL1] at hown
      have HL1 : Hid (L1 = tOne) := hL1
      have lL1 : L1.length ≤ 6 := by rw [hL1]; simp [tOne]
      clear hL1
      go_wp2_with fail
      generalize wr = wq at *
      go_loopw [3, 5] (fun v i wr => ∃ q : Nat, q ≤ mus ∧ i = .int .i64 (q) ∧ OwnT wr w1.heap.size v (L1 ++ tAck q) ∧ Kept w1 wr) (fun _ i _ => 4000 - (intOf i).toNat)
      case atStart => exact ⟨0, by omega, rfl, by simpa [tAck] using hown, hb⟩
      case round =>
        obtain ⟨q, hq, rfl, hown, hb⟩ := hrel
        have hbc := hb.blk hb1
        have c6 := hbc.cell 6
        simp only [List.getElem?_cons_zero, List.getElem?_cons_succ] at c6
        by_cases hlt : q < mus
        · have hlti : (q : Int) < mus := by omega
          have HS : Hid (L1 ++ tAck (q + 1) = L1 ++ tAck q ++ [⟨6, q, 0⟩]) := by unfold Hid tAck; rw [row_succ, List.append_assoc]
          have hln : (L1 ++ tAck q).length ≤ 100 := by simp [tAck]; omega
          generalize (L1 ++ tAck q) = X at *
          go_wp2_with (at_builtin; refine wpList_append_own _ rfl _ _ 33 rfl w1.heap.size 112 iT (.agg #[.int .i64 0, .int .i64 0, .int .i64 0]) 3 24 Tryz.underlying33 hiT hzT0 hzT1 hzT2 rfl (by decide) _ _ _ rfl (World.ownsRow.alloc hown _) ⟨wr.heap.size, 0, none⟩ 1 1 [.int .i64 (6), .int .i64 (q), .int .i64 (0)] rfl rfl ?c2a ?c2b ?c2c ?c2d ?c2e ?_)
          case c2a => exact t3_cells _ _ _ _
          case c2b => exact t3_one _ _ _
          case c2c => unfold maxLen; omega
          case c2d => omega
          case c2e => have := hb.size; simp; omega
          intro v' w2 hown' hgrow _
          have hstep := OwnT.step (t := ⟨6, q, 0⟩) hown hb hown' hgrow
          clear hown' hgrow hown hb
          obtain ⟨hown, hb⟩ := hstep
          clear hbc c6
          go_wp2_with fail
          go_roundw
          case rel => exact ⟨q + 1, by omega, by go_num, by rw [HS.out]; exact hown, hb⟩
          case measure => simp [intOf]; omega
        · obtain rfl : q = mus := by omega
          obtain ⟨L2, hL2⟩ : ∃ L : List T3, L = L1 ++ tAck q := ⟨_, rfl⟩
          rw [← hL2] at hown
          have HL2' : Hid (L2 = L1 ++ tAck q) := hL2
          have lL2 : L2.length ≤ 10 := by rw [hL2]; simp [tAck]; omega
          clear hL2
          go_wp2_with fail
          clear hbc c6
          generalize wr = wq at *
          go_loopw [3, 6] (fun v i wr => ∃ q : Nat, q ≤ 5 ∧ i = .int .i64 (q) ∧ OwnT wr w1.heap.size v (L2 ++ (List.range q).map fun (j : Nat) => (⟨7, j, 0⟩ : T3)) ∧ Kept w1 wr) (fun _ i _ => 4000 - (intOf i).toNat)
          case atStart => exact ⟨0, by omega, rfl, by simpa using hown, hb⟩
          case round =>
            obtain ⟨q, hq, rfl, hown, hb⟩ := hrel
            by_cases hlt : q < 5
            · have hlti : (q : Int) < 5 := by omega
              have HS : Hid ((L2 ++ (List.range (q + 1)).map fun (j : Nat) => (⟨7, j, 0⟩ : T3)) = (L2 ++ (List.range q).map fun (j : Nat) => (⟨7, j, 0⟩ : T3)) ++ [⟨7, q, 0⟩]) := by unfold Hid; rw [row_succ, List.append_assoc]
              have hln : (L2 ++ (List.range q).map fun (j : Nat) => (⟨7, j, 0⟩ : T3)).length ≤ 100 := by simp; omega
              generalize (L2 ++ (List.range q).map fun (j : Nat) => (⟨7, j, 0⟩ : T3)) = X at *
              go_wp2_with (at_builtin; refine wpList_append_own _ rfl _ _ 33 rfl w1.heap.size 112 iT (.agg #[.int .i64 0, .int .i64 0, .int .i64 0]) 3 24 Tryz.underlying33 hiT hzT0 hzT1 hzT2 rfl (by decide) _ _ _ rfl (World.ownsRow.alloc hown _) ⟨wr.heap.size, 0, none⟩ 1 1 [.int .i64 (7), .int .i64 (q), .int .i64 (0)] rfl rfl ?c3a ?c3b ?c3c ?c3d ?c3e ?_)
              case c3a => exact t3_cells _ _ _ _
              case c3b => exact t3_one _ _ _
              case c3c => unfold maxLen; omega
              case c3d => omega
              case c3e => have := hb.size; simp; omega
              intro v' w2 hown' hgrow _
              have hstep := OwnT.step (t := ⟨7, q, 0⟩) hown hb hown' hgrow
              clear hown' hgrow hown hb
              obtain ⟨hown, hb⟩ := hstep
              go_wp2_with fail
              go_roundw
              case rel => exact ⟨q + 1, by omega, by go_num, by rw [HS.out]; exact hown, hb⟩
              case measure => simp [intOf]; omega
            · obtain rfl : q = 5 := by omega
              rw [show ((5 : Nat) : Int) = 5 from rfl]
              obtain ⟨L3, hL3⟩ : ∃ L : List T3, L = L2 ++ tHead := ⟨_, rfl⟩
              rw [show ((List.range 5).map fun (j : Nat) => (⟨7, j, 0⟩ : T3)) = tHead from rfl] at hown
              rw [← hL3] at hown
              have HL3 : Hid (L3 = L2 ++ tHead) := hL3
              have lL3 : L3.length ≤ 15 := by rw [hL3]; simp [tHead]; omega
              clear hL3
              go_wp2_with fail
              generalize wr = wq at *
              go_loopw [3, 7] (fun v i wr => ∃ q : Nat, q ≤ mks ∧ i = .int .i64 q ∧ OwnT wr w1.heap.size v (L3 ++ tDeq dq q) ∧ Kept w1 wr) (fun _ i _ => 4000 - (intOf i).toNat)
              case atStart => exact ⟨0, by omega, rfl, by simpa [tDeq] using hown, hb⟩
              case round =>
                obtain ⟨q, hq, rfl, hown, hb⟩ := hrel
                have hbc := hb.blk hb1
                have c5 := hbc.cell 5
                simp only [List.getElem?_cons_zero, List.getElem?_cons_succ] at c5
                by_cases hlt : q < mks
                · have hlti : (q : Int) < mks := by omega
                  have hql : q * (2 + dq) ≤ 3 * (2 + dq) := Nat.mul_le_mul_right _ (by omega)
                  have hln : (L3 ++ tDeq dq q).length ≤ 100 := by rw [List.length_append, tDeq_len]; omega
                  have HS : Hid (L3 ++ tDeq dq (q + 1) = (L3 ++ tDeq dq q ++ [⟨8, q, 0⟩] ++ [⟨9, q, 0⟩]) ++ tEntry q dq) := by unfold Hid; rw [tDeq_succ, tDeq1]; simp [List.append_assoc]
                  generalize L3 ++ tDeq dq q = X at *
                  go_wp2_with (at_builtin; refine wpList_append_own _ rfl _ _ 33 rfl w1.heap.size 112 iT (.agg #[.int .i64 0, .int .i64 0, .int .i64 0]) 3 24 Tryz.underlying33 hiT hzT0 hzT1 hzT2 rfl (by decide) _ _ _ rfl (World.ownsRow.alloc hown _) ⟨wr.heap.size, 0, none⟩ 1 1 [.int .i64 (8), .int .i64 (q), .int .i64 (0)] rfl rfl ?c4a ?c4b ?c4c ?c4d ?c4e ?_)
                  case c4a => exact t3_cells _ _ _ _
                  case c4b => exact t3_one _ _ _
                  case c4c => unfold maxLen; omega
                  case c4d => omega
                  case c4e => have := hb.size; simp; omega
                  intro v' w2 hown' hgrow _
                  have hstep := OwnT.step (t := ⟨8, q, 0⟩) hown hb hown' hgrow
                  clear hown' hgrow hown hb
                  obtain ⟨hown, hb⟩ := hstep
                  obtain ⟨X1, hX1⟩ : ∃ L : List T3, L = X ++ [⟨8, q, 0⟩] := ⟨_, rfl⟩
                  rw [← hX1] at hown HS
                  have hln2 : X1.length ≤ 101 := by rw [hX1]; simp; omega
                  clear hX1
                  go_wp2_with (at_builtin; refine wpList_append_own _ rfl _ _ 33 rfl w1.heap.size 112 iT (.agg #[.int .i64 0, .int .i64 0, .int .i64 0]) 3 24 Tryz.underlying33 hiT hzT0 hzT1 hzT2 rfl (by decide) _ _ _ rfl (World.ownsRow.alloc hown _) ⟨w2.heap.size, 0, none⟩ 1 1 [.int .i64 (9), .int .i64 (q), .int .i64 (0)] rfl rfl ?c5a ?c5b ?c5c ?c5d ?c5e ?_)
                  case c5a => exact t3_cells _ _ _ _
                  case c5b => exact t3_one _ _ _
                  case c5c => unfold maxLen; omega
                  case c5d => omega
                  case c5e => have := hb.size; simp; omega
                  intro v' w3 hown' hgrow _
                  have hstep := OwnT.step (t := ⟨9, q, 0⟩) hown hb hown' hgrow
                  clear hown' hgrow hown hb
                  obtain ⟨hown, hb⟩ := hstep
                  obtain ⟨Y, hY⟩ : ∃ L : List T3, L = X1 ++ [⟨9, q, 0⟩] := ⟨_, rfl⟩
                  rw [← hY] at hown HS
                  have hln3 : Y.length ≤ 102 := by rw [hY]; simp; omega
                  clear hY
                  clear hbc c5 hln hln2
                  go_wp2_with fail
                  generalize w3 = wq at *
                  go_loopw [3, 8] (fun v i wr => ∃ j : Nat, j ≤ dq ∧ i = .int .i64 j ∧ OwnT wr w1.heap.size v (Y ++ tEntry q j) ∧ Kept w1 wr) (fun _ i _ => 4000 - (intOf i).toNat)
                  case atStart => exact ⟨0, by omega, rfl, by simpa [tEntry] using hown, hb⟩
                  case round =>
                    obtain ⟨j, hj, rfl, hown, hb⟩ := hrel
                    have hbc := hb.blk hb1
                    have c7 := hbc.cell 7
                    simp only [List.getElem?_cons_zero, List.getElem?_cons_succ] at c7
                    by_cases hjl : j < dq
                    · have hlti2 : (j : Int) < dq := by omega
                      have HE : Hid (Y ++ tEntry q (j + 1) = Y ++ tEntry q j ++ [⟨10, q, j⟩]) := by unfold Hid tEntry; rw [row_succ, List.append_assoc]
                      have hln : (Y ++ tEntry q j).length ≤ 200 := by simp [tEntry]; omega
                      generalize (Y ++ tEntry q j) = Z at *
                      go_wp2_with (at_builtin; refine wpList_append_own _ rfl _ _ 33 rfl w1.heap.size 112 iT (.agg #[.int .i64 0, .int .i64 0, .int .i64 0]) 3 24 Tryz.underlying33 hiT hzT0 hzT1 hzT2 rfl (by decide) _ _ _ rfl (World.ownsRow.alloc hown _) ⟨wr.heap.size, 0, none⟩ 1 1 [.int .i64 (10), .int .i64 (q), .int .i64 (j)] rfl rfl ?c6a ?c6b ?c6c ?c6d ?c6e ?_)
                      case c6a => exact t3_cells _ _ _ _
                      case c6b => exact t3_one _ _ _
                      case c6c => unfold maxLen; omega
                      case c6d => omega
                      case c6e => have := hb.size; simp; omega
                      intro v' w4 hown' hgrow _
                      have hstep := OwnT.step (t := ⟨10, q, j⟩) hown hb hown' hgrow
                      clear hown' hgrow hown hb
                      obtain ⟨hown, hb⟩ := hstep
                      clear hbc c7
                      go_wp2_with fail
                      go_roundw
                      case rel => exact ⟨j + 1, by omega, by go_num, by rw [HE.out]; exact hown, hb⟩
                      case measure => simp [intOf]; omega
                    · obtain rfl : j = dq := by omega
                      go_wp2_with fail
                      clear hbc c7
                      go_roundw
                      case rel => exact ⟨q + 1, by omega, by go_num, by rw [HS.out]; exact hown, hb⟩
                      case measure => simp [intOf]; omega
                · obtain rfl : q = mks := by omega
                  obtain ⟨L4, hL4⟩ : ∃ L : List T3, L = L3 ++ tDeq dq q := ⟨_, rfl⟩
                  rw [← hL4] at hown
                  have HL4 : Hid (L4 = L3 ++ tDeq dq q) := hL4
                  have lL4 : L4.length ≤ 100 := by rw [hL4]; rw [List.length_append, tDeq_len]; have : q * (2 + dq) ≤ 4 * (2 + dq) := Nat.mul_le_mul_right _ (by omega); omega
                  clear hL4
                  clear hbc c5
                  have hbc := hb.blk hb1
                  have c0 := hbc.cell 0
                  have c1 := hbc.cell 1
                  have c2 := hbc.cell 2
                  have c3 := hbc.cell 3
                  have c4 := hbc.cell 4
                  have c5 := hbc.cell 5
                  have c6 := hbc.cell 6
                  have c7 := hbc.cell 7
                  have c8 := hbc.cell 8
                  have c9 := hbc.cell 9
                  have c10 := hbc.cell 10
                  have c11 := hbc.cell 11
                  simp only [List.getElem?_cons_zero, List.getElem?_cons_succ] at c0 c1 c2 c3 c4 c5 c6 c7 c8 c9 c10 c11
                  go_wp2_with fail
                  clear hbc c0 c1 c2 c3 c4 c5 c6 c7 c8 c9 c10 c11
                  generalize wr = wq at *
                  have CP : Calls Tryz.prog 32 #[.agg #[.int .i64 c.c0, .int .i64 c.c1, .int .i64 c.c2, .int .i64 c.c3, .int .i64 c.c4, .int .i64 c.mks, .int .i64 c.mus, .int .i64 c.dq, .int .i64 c.ch, .int .i64 c.bu, .int .i64 c.ro, .int .i64 c.sw]] wq fun r w' => r = .returned (.int .i64 many) ∧ Kept wq w' := by rw [← HMY.out]; exact packets_ref c wq Hg.out
                  rw [HMS.out, HMU.out, HDQ.out] at CP
                  refine CP.mono ?_; rintro e wa ⟨rfl, hka⟩
                  replace hown := ownsRow_kept' hown hka
                  replace hb := hb.trans' hka
                  clear CP hka
                  go_wp2_with fail
                  generalize wa = wq at *
                  go_loopw [3, 10] (fun v i wr => ∃ q : Nat, q ≤ many ∧ i = .int .i64 ((q : Int) + 1) ∧ OwnT wr w1.heap.size v (L4 ++ tPk q) ∧ Kept w1 wr) (fun _ i _ => 4000 - (intOf i).toNat)
                  case atStart => exact ⟨0, by omega, rfl, by simpa [tPk] using hown, hb⟩
                  case round =>
                    obtain ⟨q, hq, rfl, hown, hb⟩ := hrel
                    by_cases hlt : q < many
                    · have hlti : (q : Int) + 1 ≤ many := by omega
                      have hln : (L4 ++ tPk q).length ≤ 13000 := by rw [List.length_append, tPk_len]; omega
                      have HS : Hid (L4 ++ tPk (q + 1) = (L4 ++ tPk q ++ [⟨11, (q : Int) + 1, 0⟩] ++ [⟨12, (q : Int) + 1, 0⟩]) ++ tTask ((q : Int) + 1) 4) := by unfold Hid; rw [tPk_succ, tPk1]; simp [List.append_assoc]
                      generalize L4 ++ tPk q = X at *
                      obtain ⟨p, hp⟩ : ∃ p : Int, (q : Int) + 1 = p := ⟨_, rfl⟩
                      rw [hp] at HS hlti ⊢
                      go_wp2_with (at_builtin; refine wpList_append_own _ rfl _ _ 33 rfl w1.heap.size 112 iT (.agg #[.int .i64 0, .int .i64 0, .int .i64 0]) 3 24 Tryz.underlying33 hiT hzT0 hzT1 hzT2 rfl (by decide) _ _ _ rfl (World.ownsRow.alloc hown _) ⟨wr.heap.size, 0, none⟩ 1 1 [.int .i64 (11), .int .i64 (p), .int .i64 (0)] rfl rfl ?c7a ?c7b ?c7c ?c7d ?c7e ?_)
                      case c7a => exact t3_cells _ _ _ _
                      case c7b => exact t3_one _ _ _
                      case c7c => unfold maxLen; omega
                      case c7d => omega
                      case c7e => have := hb.size; simp; omega
                      intro v' w2 hown' hgrow _
                      have hstep := OwnT.step (t := ⟨11, p, 0⟩) hown hb hown' hgrow
                      clear hown' hgrow hown hb
                      obtain ⟨hown, hb⟩ := hstep
                      obtain ⟨X1, hX1⟩ : ∃ L : List T3, L = X ++ [⟨11, p, 0⟩] := ⟨_, rfl⟩
                      rw [← hX1] at hown HS
                      have hln2 : X1.length ≤ 13001 := by rw [hX1]; simp; omega
                      clear hX1
                      go_wp2_with (at_builtin; refine wpList_append_own _ rfl _ _ 33 rfl w1.heap.size 112 iT (.agg #[.int .i64 0, .int .i64 0, .int .i64 0]) 3 24 Tryz.underlying33 hiT hzT0 hzT1 hzT2 rfl (by decide) _ _ _ rfl (World.ownsRow.alloc hown _) ⟨w2.heap.size, 0, none⟩ 1 1 [.int .i64 (12), .int .i64 (p), .int .i64 (0)] rfl rfl ?c8a ?c8b ?c8c ?c8d ?c8e ?_)
                      case c8a => exact t3_cells _ _ _ _
                      case c8b => exact t3_one _ _ _
                      case c8c => unfold maxLen; omega
                      case c8d => omega
                      case c8e => have := hb.size; simp; omega
                      intro v' w3 hown' hgrow _
                      have hstep := OwnT.step (t := ⟨12, p, 0⟩) hown hb hown' hgrow
                      clear hown' hgrow hown hb
                      obtain ⟨hown, hb⟩ := hstep
                      obtain ⟨Y, hY⟩ : ∃ L : List T3, L = X1 ++ [⟨12, p, 0⟩] := ⟨_, rfl⟩
                      rw [← hY] at hown HS
                      have hln3 : Y.length ≤ 13002 := by rw [hY]; simp; omega
                      clear hY
                      clear hln hln2
                      go_wp2_with fail
                      generalize w3 = wq at *
                      go_loopw [3, 11] (fun v i wr => ∃ j : Nat, j ≤ 4 ∧ i = .int .i64 j ∧ OwnT wr w1.heap.size v (Y ++ tTask p j) ∧ Kept w1 wr) (fun _ i _ => 4000 - (intOf i).toNat)
                      case atStart => exact ⟨0, by omega, rfl, by simpa [tTask] using hown, hb⟩
                      case round =>
                        obtain ⟨j, hj, rfl, hown, hb⟩ := hrel
                        by_cases hjl : j < 4
                        · have hlti2 : (j : Int) < 4 := by omega
                          have HE : Hid (Y ++ tTask p (j + 1) = Y ++ tTask p j ++ [⟨13, p, j⟩]) := by unfold Hid tTask; rw [row_succ, List.append_assoc]
                          have hln : (Y ++ tTask p j).length ≤ 13100 := by simp [tTask]; omega
                          generalize (Y ++ tTask p j) = Z at *
                          go_wp2_with (at_builtin; refine wpList_append_own _ rfl _ _ 33 rfl w1.heap.size 112 iT (.agg #[.int .i64 0, .int .i64 0, .int .i64 0]) 3 24 Tryz.underlying33 hiT hzT0 hzT1 hzT2 rfl (by decide) _ _ _ rfl (World.ownsRow.alloc hown _) ⟨wr.heap.size, 0, none⟩ 1 1 [.int .i64 (13), .int .i64 (p), .int .i64 (j)] rfl rfl ?c9a ?c9b ?c9c ?c9d ?c9e ?_)
                          case c9a => exact t3_cells _ _ _ _
                          case c9b => exact t3_one _ _ _
                          case c9c => unfold maxLen; omega
                          case c9d => omega
                          case c9e => have := hb.size; simp; omega
                          intro v' w4 hown' hgrow _
                          have hstep := OwnT.step (t := ⟨13, p, j⟩) hown hb hown' hgrow
                          clear hown' hgrow hown hb
                          obtain ⟨hown, hb⟩ := hstep
                          go_wp2_with fail
                          go_roundw
                          case rel => exact ⟨j + 1, by omega, by go_num, by rw [HE.out]; exact hown, hb⟩
                          case measure => simp [intOf]; omega
                        · obtain rfl : j = 4 := by omega
                          have yp : IntKind.i64.wrap (p + 1) = p + 1 := IntWalk.i64_in _ (by omega)
                          go_wp2_with fail
                          go_roundw
                          case rel => exact ⟨q + 1, by omega, by rw [← hp]; go_num, by rw [HS.out]; exact hown, hb⟩
                          case measure => simp [intOf]; omega
                    · obtain rfl : q = many := by omega
                      obtain ⟨L5, hL5⟩ : ∃ L : List T3, L = L4 ++ tPk q := ⟨_, rfl⟩
                      rw [← hL5] at hown
                      have HL5 : Hid (L5 = L4 ++ tPk q) := hL5
                      have lL5 : L5.length ≤ 13000 := by rw [hL5]; rw [List.length_append, tPk_len]; omega
                      clear hL5
                      have hbc := hb.blk hb1
                      have c0 := hbc.cell 0
                      have c1 := hbc.cell 1
                      have c2 := hbc.cell 2
                      have c3 := hbc.cell 3
                      have c4 := hbc.cell 4
                      have c5 := hbc.cell 5
                      have c6 := hbc.cell 6
                      have c7 := hbc.cell 7
                      have c8 := hbc.cell 8
                      have c9 := hbc.cell 9
                      have c10 := hbc.cell 10
                      have c11 := hbc.cell 11
                      simp only [List.getElem?_cons_zero, List.getElem?_cons_succ] at c0 c1 c2 c3 c4 c5 c6 c7 c8 c9 c10 c11
                      go_wp2_with fail
                      clear hbc c0 c1 c2 c3 c4 c5 c6 c7 c8 c9 c10 c11
                      generalize wr = wq at *
                      have CR : Calls Tryz.prog 65 #[.agg #[.int .i64 c.c0, .int .i64 c.c1, .int .i64 c.c2, .int .i64 c.c3, .int .i64 c.c4, .int .i64 c.mks, .int .i64 c.mus, .int .i64 c.dq, .int .i64 c.ch, .int .i64 c.bu, .int .i64 c.ro, .int .i64 c.sw]] wq fun r w' => ∃ v, r = .returned v ∧ w'.ownsRow wq.heap.size 3 1 v (rooms c).length ((rooms c).map (Value.int .i64)) ∧ Kept wq w' := rooms_ref c wq Hg.out
                      rw [HMS.out, HMU.out, HDQ.out] at CR
                      refine CR.mono ?_; rintro e wa ⟨vr, rfl, hrow, hka⟩
                      obtain ⟨ao, cap, rfl, hcells⟩ := row_nums hrow
                      rw [show (rooms c).length = nN c from rfl] at hcells ⊢
                      obtain ⟨gr, rfl, hgr, _⟩ := hcells 0 (by omega)
                      have HG : Hid (∀ i, i < nN c → wa.cell? ⟨gr, i, none⟩ = some (.int .i64 ((rooms c)[i]?.getD 0))) := fun i hi => by obtain ⟨g, e, _, h⟩ := hcells i hi; simp at e; rw [← e] at h; exact h
                      have hgq := (ownsRow_base hrow gr rfl).1
                      have hng := own_ne hown hgq
                      replace hown := ownsRow_kept' hown hka
                      replace hb := hb.trans' hka
                      have HNR : Hid (NodeRow wa gr c _) := ⟨hgr, hng, HG.out⟩
                      clear CR hka hcells hrow hng HG
                      go_wp2_with fail
                      go_loopw [3, 13] (fun v i wr => ∃ q : Nat, q ≤ nN c ∧ i = .int .i64 ((q : Int) + 1) ∧ OwnT wr w1.heap.size v (L5 ++ tNd (rooms c) q) ∧ Kept w1 wr ∧ NodeRow wr gr c v) (fun _ i _ => 4000 - (intOf i).toNat)
                      case atStart => exact ⟨0, by omega, rfl, by simpa [tNd] using hown, hb, HNR.out⟩
                      case round =>
                        obtain ⟨q, hq, rfl, hown, hb, hnr⟩ := hrel
                        by_cases hlt : q < nN c
                        · have hlti : (q : Int) + 1 ≤ nN c := by omega
                          have hln : (L5 ++ tNd (rooms c) q).length ≤ 14300 := by have h1 := tNd_len (c := c) q (by omega); have h2 := at_bound c Hg.out q; rw [List.length_append]; omega
                          have HS : Hid (L5 ++ tNd (rooms c) (q + 1) = (L5 ++ tNd (rooms c) q ++ tWord ((q : Int) + 1) 4) ++ tSlot ((q : Int) + 1) ((rooms c)[q]?.getD 0).toNat) := by unfold Hid; rw [tNd_succ, tNd1]; simp [List.append_assoc]
                          obtain ⟨r, hr⟩ : ∃ r : Nat, (rooms c)[q]?.getD 0 = (r : Int) := ⟨((rooms c)[q]?.getD 0).toNat, by have := rooms_get hlt; omega⟩
                          have hrb := rooms_get hlt
                          rw [hr] at hrb HS
                          have HR : Hid ((rooms c)[q]?.getD 0 = (r : Int)) := hr
                          rw [Int.toNat_natCast] at HS
                          clear hr
                          generalize L5 ++ tNd (rooms c) q = X at *
                          obtain ⟨p, hp⟩ : ∃ p : Int, (q : Int) + 1 = p := ⟨_, rfl⟩
                          rw [hp] at HS hlti ⊢
                          have HP : Hid ((q : Int) + 1 = p) := hp
                          have yp0 : IntKind.i64.wrap (p - 1) = q := by rw [← hp, show (q : Int) + 1 - 1 = q from by omega]; exact IntWalk.i64_in _ (by omega)
                          have yp1 : IntKind.i64.wrap (p + 1) = p + 1 := IntWalk.i64_in _ (by omega)
                          clear hp
                          go_wp2_with fail
                          generalize wr = wq at *
                          go_loopw [3, 14] (fun v i wr => ∃ j : Nat, j ≤ 4 ∧ i = .int .i64 (14 + (j : Int)) ∧ OwnT wr w1.heap.size v (X ++ tWord p j) ∧ Kept w1 wr ∧ NodeRow wr gr c v) (fun _ i _ => 4000 - (intOf i).toNat)
                          case atStart => exact ⟨0, by omega, rfl, by simpa [tWord] using hown, hb, hnr⟩
                          case round =>
                            obtain ⟨j, hj, rfl, hown, hb, hnr⟩ := hrel
                            by_cases hjl : j < 4
                            · have hlti2 : 14 + (j : Int) < 18 := by omega
                              have HE : Hid (X ++ tWord p (j + 1) = X ++ tWord p j ++ [⟨14 + (j : Int), p, 0⟩]) := by unfold Hid tWord; rw [row_succ, List.append_assoc]
                              have hln2 : (X ++ tWord p j).length ≤ 14310 := by simp [tWord]; omega
                              obtain ⟨kk, hkk⟩ : ∃ kk : Int, 14 + (j : Int) = kk := ⟨_, rfl⟩
                              rw [hkk] at HE hlti2 ⊢
                              have HK : Hid (14 + (j : Int) = kk) := hkk
                              have ykk : IntKind.i64.wrap (kk + 1) = kk + 1 := IntWalk.i64_in _ (by omega)
                              clear hkk
                              generalize (X ++ tWord p j) = Z at *
                              go_wp2_with (at_builtin; refine wpList_append_lies _ rfl _ _ 33 rfl w1.heap.size 112 iT (.agg #[.int .i64 0, .int .i64 0, .int .i64 0]) 3 24 Tryz.underlying33 hiT hzT0 hzT1 hzT2 rfl (by decide) _ _ _ rfl (World.ownsRow.alloc hown _) ⟨wr.heap.size, 0, none⟩ 1 1 [.int .i64 (kk), .int .i64 (p), .int .i64 (0)] rfl rfl ?c10a ?c10b (by omega) ?c10c ?c10d ?c10e _ rfl ?_)
                              case c10a => exact t3_cells _ _ _ _
                              case c10b => exact t3_one _ _ _
                              case c10c => unfold maxLen; omega
                              case c10d => omega
                              case c10e => have := hb.size; simp; omega
                              intro gn cpn w4 hown' hgrow hlies hgl
                              have hnr2 := hnr.grown (n := Z.length + 1) (cap := cpn) hgrow hlies
                              have hstep := OwnT.step (t := ⟨kk, p, 0⟩) hown hb hown' hgrow
                              clear hown' hgrow hlies hgl hnr hown hb
                              obtain ⟨hown, hb⟩ := hstep
                              have hnr := hnr2
                              clear hnr2
                              go_wp2_with fail
                              go_roundw
                              case rel => exact ⟨j + 1, by omega, by have := HK.out; congr 1; push_cast; omega, by rw [HE.out]; exact hown, hb, hnr⟩
                              case measure => have := HK.out; simp [intOf]; omega
                            · obtain rfl : j = 4 := by omega
                              rw [show 14 + ((4 : Nat) : Int) = 18 from rfl]
                              have hlnY : (X ++ tWord p 4).length ≤ 14310 := by simp [tWord]; omega
                              generalize X ++ tWord p 4 = Y at *
                              go_wp2_with fail
                              generalize wr = wq2 at *
                              go_loopw [3, 15] (fun v i wr => ∃ j : Nat, j ≤ r ∧ i = .int .i64 j ∧ OwnT wr w1.heap.size v (Y ++ tSlot p j) ∧ Kept w1 wr ∧ NodeRow wr gr c v) (fun _ i _ => 4000 - (intOf i).toNat)
                              case atStart => exact ⟨0, by omega, rfl, by simpa [tSlot] using hown, hb, hnr⟩
                              case round =>
                                obtain ⟨j, hj, rfl, hown, hb, hnr⟩ := hrel
                                have hrc : wr.cell? ⟨gr, q, none⟩ = some (.int .i64 r) := by rw [← HR.out]; exact hnr.2.2 q hlt
                                have hqn : (q : Int) < nN c := by omega
                                have hq0 : (0 : Int) ≤ q := by omega
                                by_cases hjr : j < r
                                · have hlti3 : (j : Int) < r := by omega
                                  have HE : Hid (Y ++ tSlot p (j + 1) = Y ++ tSlot p j ++ [⟨18, p, j⟩]) := by unfold Hid tSlot; rw [row_succ, List.append_assoc]
                                  have hln3 : (Y ++ tSlot p j).length ≤ 14340 := by simp [tSlot]; omega
                                  generalize (Y ++ tSlot p j) = Z at *
                                  go_wp2_with (at_builtin; refine wpList_append_lies _ rfl _ _ 33 rfl w1.heap.size 112 iT (.agg #[.int .i64 0, .int .i64 0, .int .i64 0]) 3 24 Tryz.underlying33 hiT hzT0 hzT1 hzT2 rfl (by decide) _ _ _ rfl (World.ownsRow.alloc hown _) ⟨wr.heap.size, 0, none⟩ 1 1 [.int .i64 (18), .int .i64 (p), .int .i64 (j)] rfl rfl ?c11a ?c11b (by omega) ?c11c ?c11d ?c11e _ rfl ?_)
                                  case c11a => exact t3_cells _ _ _ _
                                  case c11b => exact t3_one _ _ _
                                  case c11c => unfold maxLen; omega
                                  case c11d => omega
                                  case c11e => have := hb.size; simp; omega
                                  intro gn cpn w5 hown' hgrow hlies hgl
                                  have hnr2 := hnr.grown (n := Z.length + 1) (cap := cpn) hgrow hlies
                                  have hstep := OwnT.step (t := ⟨18, p, j⟩) hown hb hown' hgrow
                                  clear hown' hgrow hlies hgl hnr hown hb
                                  obtain ⟨hown, hb⟩ := hstep
                                  have hnr := hnr2
                                  clear hnr2
                                  go_wp2_with fail
                                  go_roundw
                                  case rel => exact ⟨j + 1, by omega, by go_num, by rw [HE.out]; exact hown, hb, hnr⟩
                                  case measure => simp [intOf]; omega
                                · obtain rfl : j = r := by omega
                                  go_wp2_with fail
                                  go_roundw
                                  case rel => exact ⟨q + 1, by omega, by have := HP.out; congr 1; push_cast; omega, by rw [HS.out]; exact hown, hb, hnr⟩
                                  case measure => have := HP.out; simp [intOf]; omega
                        · obtain rfl : q = nN c := by omega
                          have hall := HL2.out _ (show L5 ++ tNd (rooms c) (nN c) = _ by rw [HL5.out, HL4.out, HL3.out, HL2'.out, HL1.out])
                          rw [hall] at hown
                          go_wp2_with fail
                          go_ret
                          exact ⟨_, rfl, ownsRow_mono hown (by have := hk0.size; omega), hk0.trans' hb⟩

end Go.Proofs.YtfbcadknimfhjaaGreat

namespace Go.Proofs.YtfbcadknimfhjaaGreat
open Go.RowKit

/-- Are two things the same? -/
theorem T_eq (a b d a' b' d' : Int) (W : World) : (binOp .eql 112 (.agg #[.int .i64 a, .int .i64 b, .int .i64 d]) (.agg #[.int .i64 a', .int .i64 b', .int .i64 d'])).run Tryz.prog W = .ok (.bool (decide ((⟨a, b, d⟩ : T3) = ⟨a', b', d'⟩))) W := by
  have u3 := Tryz.underlying3
  have a3 := Tryz.isAgg3
  have z3 := Tryz.sizeOf3
  have hS : Tryz.prog.underlying 112 = some (.struct (Tryz.prog.fieldsOf 112)) := by kernel_rfl
  have hp : Tryz.prog.stoodInHeld 112 = false := by kernel_rfl
  rw [run_eql_struct, show (10000 : Nat) = 9999 + 1 from rfl, run_equalIn_agg W 9999 112 _ _ hS hp]
  simp only [Program.fieldsOf, Tryz.underlying112]
  go_simp
  by_cases h1 : a = a' <;> by_cases h2 : b = b' <;> by_cases h3 : d = d' <;> simp [h1, h2, h3]

/-- Things that can be read. -/
structure RowT (w : World) (v : Value) (L : List T3) : Prop where
  ex : ∃ ao cap, v = .slice ao L.length cap ∧ L.length ≤ maxLen ∧ ∀ i t, L[i]? = some t → ∃ g, ao = some ⟨g, 0, none⟩ ∧ g < w.heap.size ∧ w.cell? ⟨g, i * 3, none⟩ = some (.int .i64 t.k) ∧ w.cell? ⟨g, i * 3 + 1, none⟩ = some (.int .i64 t.a) ∧ w.cell? ⟨g, i * 3 + 2, none⟩ = some (.int .i64 t.b)

theorem RowT.ofOwn {w : World} {base : Nat} {v : Value} {L : List T3} (h : OwnT w base v L) : RowT w v L := by
  rcases h.2 with ⟨rfl, h0⟩ | ⟨g, cap, cur, rfl, hb, hh, h1, h2, h3, h4⟩
  · exact ⟨none, 0, by rw [h0], by omega, fun i t hi => by
      have : L = [] := List.length_eq_zero_iff.1 h0
      subst this
      simp at hi⟩
  · refine ⟨some ⟨g, 0, none⟩, cap, rfl, by omega, fun i t hi => ?_⟩
    obtain ⟨f0, f1, f2⟩ := flatT_get L i t hi
    rw [Nat.mul_comm] at f0 f1 f2
    have hget : ∀ j u, (flatT L)[j]? = some u → w.cell? ⟨g, j, none⟩ = some u := fun j u hu => by
      rw [cell_of_row w g j _ _ _ hh]
      rw [← h4, List.getElem?_take] at hu
      split at hu
      · rw [← Array.getElem?_toList]; exact hu
      · cases hu
    exact ⟨g, rfl, lt_of_block hh, hget _ _ f0, hget _ _ f1, hget _ _ f2⟩

theorem RowT.kept {w w' : World} {v : Value} {L : List T3} (h : RowT w v L) (k : Kept w w') : RowT w' v L := by
  obtain ⟨ao, cap, hv, hm, hc⟩ := h.ex
  refine ⟨ao, cap, hv, hm, fun i t hi => ?_⟩
  obtain ⟨g, hg, hl, h0, h1, h2⟩ := hc i t hi
  exact ⟨g, hg, Nat.lt_of_lt_of_le hl k.size, by rw [Below.cell k hl]; exact h0, by rw [Below.cell k hl]; exact h1, by rw [Below.cell k hl]; exact h2⟩

theorem RowT.chg {w w' : World} {v : Value} {L : List T3} {S : Nat → Prop} (h : RowT w v L) (k : Chg S w w') (hn : ∀ g, v.ownBlock = some g → ¬ S g) : RowT w' v L := by
  obtain ⟨ao, cap, rfl, hm, hc⟩ := h.ex
  refine ⟨ao, cap, rfl, hm, fun i t hi => ?_⟩
  obtain ⟨g, rfl, hl, h0, h1, h2⟩ := hc i t hi
  have hx := fun j => cell_of_heap (i := j) (k.block g hl (hn g rfl))
  exact ⟨g, rfl, Nat.lt_of_lt_of_le hl k.size, by rw [hx]; exact h0, by rw [hx]; exact h1, by rw [hx]; exact h2⟩

set_option maxRecDepth 8000 in
set_option maxHeartbeats 1600000 in
theorem place_ref {v : Value} {L : List T3} (t : T3) (w : World) (h : RowT w v L) :
    Calls Tryz.prog 82 #[v, .agg #[.int .i64 t.k, .int .i64 t.a, .int .i64 t.b]] w fun e w' => e = .returned (.int .i64 (idxT L t 0)) ∧ Kept w w' := by
  have hb1 := Blk.new w 112 [.int .i64 t.k, .int .i64 t.a, .int .i64 t.b]
  have hk0 : Kept w (w.alloc (.cells ([.int .i64 t.k, .int .i64 t.a, .int .i64 t.b] : List Value).toArray 112)) := (Below.refl _ _).alloc (Nat.le_refl _) _
  have h1 := h.kept hk0
  go_enter Tryz.func82, Tryz.ntmps82
  go_wp2_with fail
  generalize w.alloc (.cells ([.int .i64 t.k, .int .i64 t.a, .int .i64 t.b] : List Value).toArray 112) = w1 at *
  have p0 := hb1.cell 0
  have p1 := hb1.cell 1
  have p2 := hb1.cell 2
  simp only [List.getElem?_cons_zero, List.getElem?_cons_succ] at p0 p1 p2
  obtain ⟨ao, cap, rfl, hm, hc⟩ := h1.ex
  have hmx : (L.length : Int) ≤ 9223372036854775807 := by unfold maxLen at hm; omega
  have HC : Hid (∀ i u, L[i]? = some u → ∃ g, ao = some ⟨g, 0, none⟩ ∧ g < w1.heap.size ∧ w1.cell? ⟨g, i * 3, none⟩ = some (.int .i64 u.k) ∧ w1.cell? ⟨g, i * 3 + 1, none⟩ = some (.int .i64 u.a) ∧ w1.cell? ⟨g, i * 3 + 2, none⟩ = some (.int .i64 u.b)) := hc
  clear hc h1 h hb1
  go_loopw [5] (fun i wr => ∃ k : Nat, k ≤ L.length ∧ i = .int .i64 k ∧ idxT (L.drop k) t k = idxT L t 0 ∧ ∃ m, wr = w1.drewN m) (fun i _ => L.length - (intOf i).toNat)
  case atStart => exact ⟨0, by omega, rfl, by simp, 0, rfl⟩
  case round =>
    obtain ⟨k, hk, rfl, hix, m, rfl⟩ := hrel
    by_cases hlt : (k : Int) < L.length
    · have hlt' : k < L.length := by omega
      have hkz : (0 : Int) ≤ k := by omega
      obtain ⟨g, rfl, hg, c0, c1, c2⟩ := HC.out k _ (List.getElem?_eq_getElem hlt')
      rw [List.drop_eq_getElem_cons hlt', idxT] at hix
      generalize L[k] = u at *
      by_cases hut : u = t
      · rw [if_pos hut] at hix
        have hq : ∀ W : World, _ := fun W => T_eq u.k u.a u.b t.k t.a t.b W
        rw [decide_eq_true (show (⟨u.k, u.a, u.b⟩ : T3) = ⟨t.k, t.a, t.b⟩ from hut)] at hq
        have HI : Hid ((k : Int) = idxT L t 0) := hix
        clear hix hut
        go_wp2_with fail
        go_quiet (fail)
        go_wp2_with fail
        go_ret
        exact ⟨ret_int HI.out, below_drewN (below_drewN hk0 _) _⟩
      · rw [if_neg hut] at hix
        have hq : ∀ W : World, _ := fun W => T_eq u.k u.a u.b t.k t.a t.b W
        rw [decide_eq_false (show ¬ (⟨u.k, u.a, u.b⟩ : T3) = ⟨t.k, t.a, t.b⟩ from hut)] at hq
        have HI : Hid (idxT (L.drop (k + 1)) t (k + 1) = idxT L t 0) := hix
        clear hix hut
        go_wp2_with fail
        go_quiet (fail)
        go_wp2_with fail
        go_roundw
        case rel => exact ⟨k + 1, by omega, by go_num, HI.out, _, rfl⟩
        case measure => simp [intOf]; omega
    · obtain rfl : k = L.length := by omega
      have hix2 : (-1 : Int) = idxT L t 0 := by rw [← hix]; simp [idxT]
      have HI : Hid ((-1 : Int) = idxT L t 0) := hix2
      clear hix hix2
      go_wp2_with fail
      go_ret
      exact ⟨ret_int HI.out, below_drewN hk0 m⟩

/-- The document's map, as a value. -/
def MapV (w : World) (c : Cfg) (v : Value) : Prop := ∃ vl, v = .agg #[vl, .int .i64 (manyI c)] ∧ RowT w vl (allT c)

theorem MapV.kept {w w' : World} {c : Cfg} {v : Value} (h : MapV w c v) (k : Kept w w') : MapV w' c v := by
  obtain ⟨vl, rfl, h⟩ := h
  exact ⟨vl, rfl, h.kept k⟩

theorem at_ref {c : Cfg} {v : Value} (k a b : Int) (w : World) (h : MapV w c v) :
    Calls Tryz.prog 54 #[v, .int .i64 k, .int .i64 a, .int .i64 b] w fun e w' => e = .returned (.int .i64 (placeT c ⟨k, a, b⟩)) ∧ Kept w w' := by
  obtain ⟨vl, rfl, h⟩ := h
  obtain ⟨ao, cap, hv, _⟩ := h.ex
  have hk0 : Kept w (w.alloc (.cells ([vl, .int .i64 (manyI c)] : List Value).toArray 35)) := (Below.refl _ _).alloc (Nat.le_refl _) _
  have h1 := h.kept hk0
  rw [hv] at h1 hk0 ⊢
  clear h hv
  go_enter Tryz.func54, Tryz.ntmps54
  go_wp2_with fail
  refine (place_ref ⟨k, a, b⟩ _ h1).mono ?_; rintro e w2 ⟨rfl, hk2⟩
  go_wp2_with fail
  go_ret
  exact ⟨rfl, hk0.trans' hk2⟩

set_option maxRecDepth 8000 in
set_option maxHeartbeats 1600000 in
theorem map_ref (c : Cfg) (w : World) (hg : Good c) :
    Calls Tryz.prog 7 #[.agg #[.int .i64 c.c0, .int .i64 c.c1, .int .i64 c.c2, .int .i64 c.c3, .int .i64 c.c4, .int .i64 c.mks, .int .i64 c.mus, .int .i64 c.dq, .int .i64 c.ch, .int .i64 c.bu, .int .i64 c.ro, .int .i64 c.sw]] w fun e w' => ∃ v, e = .returned v ∧ MapV w' c v ∧ Kept w w' := by
  have hb1 := Blk.new w 37 [.int .i64 c.c0, .int .i64 c.c1, .int .i64 c.c2, .int .i64 c.c3, .int .i64 c.c4, .int .i64 c.mks, .int .i64 c.mus, .int .i64 c.dq, .int .i64 c.ch, .int .i64 c.bu, .int .i64 c.ro, .int .i64 c.sw]
  have hk0 : Kept w (w.alloc (.cells ([.int .i64 c.c0, .int .i64 c.c1, .int .i64 c.c2, .int .i64 c.c3, .int .i64 c.c4, .int .i64 c.mks, .int .i64 c.mus, .int .i64 c.dq, .int .i64 c.ch, .int .i64 c.bu, .int .i64 c.ro, .int .i64 c.sw] : List Value).toArray 37)) := (Below.refl _ _).alloc (Nat.le_refl _) _
  have hR := fun W => all_ref c W hg
  have hP := fun W => packets_ref c W hg
  go_enter Tryz.func7, Tryz.ntmps7
  go_wp2_with fail
  have z1 : (w.alloc (.cells ([.int .i64 c.c0, .int .i64 c.c1, .int .i64 c.c2, .int .i64 c.c3, .int .i64 c.c4, .int .i64 c.mks, .int .i64 c.mus, .int .i64 c.dq, .int .i64 c.ch, .int .i64 c.bu, .int .i64 c.ro, .int .i64 c.sw] : List Value).toArray 37)).heap.size = w.heap.size + 1 := by simp
  generalize w.alloc (.cells ([.int .i64 c.c0, .int .i64 c.c1, .int .i64 c.c2, .int .i64 c.c3, .int .i64 c.c4, .int .i64 c.mks, .int .i64 c.mus, .int .i64 c.dq, .int .i64 c.ch, .int .i64 c.bu, .int .i64 c.ro, .int .i64 c.sw] : List Value).toArray 37) = w1 at *
  have hr0 := Blk.new w1 35 [.slice none 0 0, .int .i64 0]
  rw [z1] at hr0
  have hka : Kept w1 (w1.alloc (.cells ([.slice none 0 0, .int .i64 0] : List Value).toArray 35)) := (Below.refl _ _).alloc (Nat.le_refl _) _
  have hb2 := (hka.blk hb1).drew
  have hr2 := hr0.drew
  have c0 := hb2.cell 0
  have c1 := hb2.cell 1
  have c2 := hb2.cell 2
  have c3 := hb2.cell 3
  have c4 := hb2.cell 4
  have c5 := hb2.cell 5
  have c6 := hb2.cell 6
  have c7 := hb2.cell 7
  have c8 := hb2.cell 8
  have c9 := hb2.cell 9
  have c10 := hb2.cell 10
  have c11 := hb2.cell 11
  simp only [List.getElem?_cons_zero, List.getElem?_cons_succ] at c0 c1 c2 c3 c4 c5 c6 c7 c8 c9 c10 c11
  refine wp_region_z 5 (fun w' => w'.cell? ⟨w.heap.size, 0, none⟩ = some (.int .i64 c.c0) ∧ w'.cell? ⟨w.heap.size, 1, none⟩ = some (.int .i64 c.c1) ∧ w'.cell? ⟨w.heap.size, 2, none⟩ = some (.int .i64 c.c2) ∧ w'.cell? ⟨w.heap.size, 3, none⟩ = some (.int .i64 c.c3) ∧ w'.cell? ⟨w.heap.size, 4, none⟩ = some (.int .i64 c.c4) ∧ w'.cell? ⟨w.heap.size, 5, none⟩ = some (.int .i64 c.mks) ∧ w'.cell? ⟨w.heap.size, 6, none⟩ = some (.int .i64 c.mus) ∧ w'.cell? ⟨w.heap.size, 7, none⟩ = some (.int .i64 c.dq) ∧ w'.cell? ⟨w.heap.size, 8, none⟩ = some (.int .i64 c.ch) ∧ w'.cell? ⟨w.heap.size, 9, none⟩ = some (.int .i64 c.bu) ∧ w'.cell? ⟨w.heap.size, 10, none⟩ = some (.int .i64 c.ro) ∧ w'.cell? ⟨w.heap.size, 11, none⟩ = some (.int .i64 c.sw)) (by kernel_rfl) ?_
  refine wpAnyZ_take (i := 0) (v := ?v0z1) rfl (by kernel_rfl) (by kernel_rfl) (by kernel_rfl) (by kernel_rfl) (fun _ _ _ h => h) (Or.inl ⟨by rfl, ?hy0z1⟩) ⟨c0,c1,c2,c3,c4,c5,c6,c7,c8,c9,c10,c11⟩ ?_
  case hy0z1 => intro w hSw; (try dsimp only at hSw); first | (go_simp; done) | (go_simp; with_reducible rfl)
  try simp only [Act.put, List.setIfInBounds_toArray]
  refine wpAnyZ_take (i := 2) (v := ?v2z2) rfl (by kernel_rfl) (by kernel_rfl) (by kernel_rfl) (by kernel_rfl) (fun _ _ _ h => h) (Or.inl ⟨by rfl, ?hy2z2⟩) ⟨c0,c1,c2,c3,c4,c5,c6,c7,c8,c9,c10,c11⟩ ?_
  case hy2z2 => intro w hSw; (try dsimp only at hSw); first | (go_simp; done) | (go_simp; with_reducible rfl)
  try simp only [Act.put]
  refine wpAnyZ_one (i := 1) (by kernel_rfl) rfl (fun K hK => ?_)
  go_simp
  go_at_call 31
  refine (hR _).mono ?_; rintro e w3 ⟨v3, rfl, hown3, hk3⟩
  have hT3 := RowT.ofOwn hown3
  obtain ⟨ao3, cp3, rfl, _⟩ := hT3.ex
  have hb3 := hk3.blk hb2
  have d0 := hb3.cell 0
  have d1 := hb3.cell 1
  have d2 := hb3.cell 2
  have d3 := hb3.cell 3
  have d4 := hb3.cell 4
  have d5 := hb3.cell 5
  have d6 := hb3.cell 6
  have d7 := hb3.cell 7
  have d8 := hb3.cell 8
  have d9 := hb3.cell 9
  have d10 := hb3.cell 10
  have d11 := hb3.cell 11
  simp only [List.getElem?_cons_zero, List.getElem?_cons_succ] at d0 d1 d2 d3 d4 d5 d6 d7 d8 d9 d10 d11
  refine hK.out _ _ (fun _ => ⟨d0, d1, d2, d3, d4, d5, d6, d7, d8, d9, d10, d11⟩) ?_
  clear hK K
  try simp only [Act.put, List.setIfInBounds_toArray, List.set_cons_zero, List.set_cons_succ]
  refine wpAnyZ_one (i := 3) (by kernel_rfl) rfl (fun K hK => ?_)
  go_simp
  go_at_call 32
  refine (hP _).mono ?_; rintro e w4 ⟨rfl, hk4⟩
  have hT4 := hT3.kept hk4
  have hr4 := hk4.blk (hk3.blk hr2)
  have g0 := hr4.cell 0
  have g1 := hr4.cell 1
  have f0 := hr4.free 0
  have f1 := hr4.free 1
  simp only [List.getElem?_cons_zero, List.getElem?_cons_succ] at g0 g1
  have hb4 := hk4.blk hb3
  have k0 := hb4.cell 0
  have k1 := hb4.cell 1
  have k2 := hb4.cell 2
  have k3 := hb4.cell 3
  have k4 := hb4.cell 4
  have k5 := hb4.cell 5
  have k6 := hb4.cell 6
  have k7 := hb4.cell 7
  have k8 := hb4.cell 8
  have k9 := hb4.cell 9
  have k10 := hb4.cell 10
  have k11 := hb4.cell 11
  simp only [List.getElem?_cons_zero, List.getElem?_cons_succ] at k0 k1 k2 k3 k4 k5 k6 k7 k8 k9 k10 k11
  refine hK.out _ _ (fun _ => ⟨k0, k1, k2, k3, k4, k5, k6, k7, k8, k9, k10, k11⟩) ?_
  clear hK K
  try simp only [Act.put, List.setIfInBounds_toArray, List.set_cons_zero, List.set_cons_succ]
  refine wpAnyZ_one (i := 4) (by kernel_rfl) rfl (fun K hK => ?_)
  go_simp
  refine hK.out _ _ (fun _ => ⟨k0, k1, k2, k3, k4, k5, k6, k7, k8, k9, k10, k11⟩) ?_
  clear hK K
  try simp only [Act.put, List.setIfInBounds_toArray, List.set_cons_zero, List.set_cons_succ]
  refine wpAnyZ_one (i := 5) (by kernel_rfl) rfl (fun K hK => ?_)
  go_simp
  refine hK.out _ _ (fun h => absurd rfl h) ?_
  refine wpAnyZ_done (by kernel_rfl) ?_ _
  clear hK K
  have hr5 : Blk ((w4.setCell ⟨w.heap.size + 1, 0, none⟩ (.slice ao3 (allT c).length cp3)).setCell ⟨w.heap.size + 1, 1, none⟩ (.int .i64 (manyI c))) (w.heap.size + 1) 35 [.slice ao3 (allT c).length cp3, .int .i64 (manyI c)] := (hr4.set' 0 (.slice ao3 (allT c).length cp3) rfl).set' 1 (.int .i64 (manyI c)) rfl
  have hk5 : Kept w ((w4.setCell ⟨w.heap.size + 1, 0, none⟩ (.slice ao3 (allT c).length cp3)).setCell ⟨w.heap.size + 1, 1, none⟩ (.int .i64 (manyI c))) := by
    have h1 : w.heap.size ≤ w.heap.size + 1 := by omega
    have h2 : Kept w w4 := Kept.trans' (Kept.trans' (show Kept w _ from (hk0.trans' hka).drew) hk3) hk4
    exact Below.setCell (Below.setCell h2 (p := ⟨w.heap.size + 1, 0, none⟩) h1 _) (p := ⟨w.heap.size + 1, 1, none⟩) h1 _
  have hT5 : RowT ((w4.setCell ⟨w.heap.size + 1, 0, none⟩ (.slice ao3 (allT c).length cp3)).setCell ⟨w.heap.size + 1, 1, none⟩ (.int .i64 (manyI c))) (.slice ao3 (allT c).length cp3) (allT c) := by
    have hb : ∀ g, Value.ownBlock (.slice ao3 (allT c).length cp3) = some g → g ≠ w.heap.size + 1 := fun g hg e => by have := (ownsRow_base hown3 g hg).1; simp at this; omega
    exact hT4.chg (S := fun q => q = w.heap.size + 1) (((Chg.refl (fun q => q = w.heap.size + 1) w4).setCell ⟨w.heap.size + 1, 0, none⟩ _ (fun _ => rfl)).setCell ⟨w.heap.size + 1, 1, none⟩ _ (fun _ => rfl)) hb
  generalize (w4.setCell ⟨w.heap.size + 1, 0, none⟩ (.slice ao3 (allT c).length cp3)).setCell ⟨w.heap.size + 1, 1, none⟩ (.int .i64 (manyI c)) = w5 at *
  have e0 := hr5.cell 0
  have e1 := hr5.cell 1
  simp only [List.getElem?_cons_zero, List.getElem?_cons_succ] at e0 e1
  go_wp2_with fail
  exact bodyPost_ret (v := .agg #[.slice ao3 (allT c).length cp3, .int .i64 (manyI c)]) (by simp [results, Tryz.results7, go_sem, e0, e1]) rfl ⟨_, rfl, ⟨_, rfl, hT5⟩, hk5⟩

end Go.Proofs.YtfbcadknimfhjaaGreat

namespace Go.Proofs.YtfbcadknimfhjaaGreat
open Go.RowKit

theorem below_blk0 {w w' : World} {B b : Nat} {t : TypeId} {l : List Value} (k : Below B w w') (h : Blk w b t l) (hb : b < B) : Blk w' b t l := by
  unfold Blk; rw [k.block b hb]; exact h

/-- The packets' links, in their order. -/
def linksL (c : Cfg) : List Int := (List.range (manyI c).toNat).map fun (q : Nat) => pPack c ((q : Int) + 1) 1

theorem linksL_len (c : Cfg) : (linksL c).length = (manyI c).toNat := by simp [linksL]

theorem linksL_get {c : Cfg} {q : Nat} (h : (q : Int) < manyI c) : (linksL c)[q]?.getD 0 = pPack c ((q : Int) + 1) 1 := by
  unfold linksL
  rw [List.getElem?_map, List.getElem?_range (by omega)]; rfl

theorem linksL_take {c : Cfg} {q : Nat} (h : (q : Int) < manyI c) : ((linksL c).take (q + 1)).map (Value.int .i64) = ((linksL c).take q).map (Value.int .i64) ++ [.int .i64 (pPack c ((q : Int) + 1) 1)] := by
  have hl : q < (linksL c).length := by rw [linksL_len]; omega
  have hg := linksL_get h
  rw [List.getElem?_eq_getElem hl] at hg
  rw [List.take_add_one, List.getElem?_eq_getElem hl, List.map_append]
  simp at hg
  simp [hg]

set_option maxRecDepth 8000 in
set_option maxHeartbeats 3200000 in
theorem stack_ref {c : Cfg} {v : Value} {hd : Int} (kind : Int) (w : World) (hg : Good c) (h : MapV w c v) (hhd : placeT c ⟨kind, 0, 0⟩ = hd) :
    Calls Tryz.prog 79 #[v, .int .i64 kind] w fun e w' => ∃ vl, e = .returned (.agg #[.int .i64 hd, vl]) ∧ Row w' vl ((linksL c).map (Value.int .i64)) ∧ Kept w w' ∧ (∀ g, vl.ownBlock = some g → w.heap.size ≤ g) := by
  have hmb := manyI_bound hg
  obtain ⟨hmb0, hmb1⟩ := hmb
  obtain ⟨i0, hi, hz0, hz1, hz2⟩ := info_parts info_int
  obtain ⟨vl0, rfl, hT⟩ := h
  obtain ⟨ao, cap, rfl, _⟩ := hT.ex
  have HM : Hid (∀ W, Kept w W → MapV W c (.agg #[.slice ao (allT c).length cap, .int .i64 (manyI c)])) := fun W k => ⟨_, rfl, hT.kept k⟩
  have HD : Hid (placeT c ⟨kind, 0, 0⟩ = hd) := hhd
  have HP : Hid (∀ p, placeT c ⟨12, p, 0⟩ = pPack c p 1) := fun p => place_pack hg p 1 (.inr rfl)
  clear hT hhd
  generalize (allT c).length = ln at *
  have hA := Blk.new w 35 [.slice ao ln cap, .int .i64 (manyI c)]
  have hkA : Kept w (w.alloc (.cells ([.slice ao ln cap, .int .i64 (manyI c)] : List Value).toArray 35)) := (Below.refl _ _).alloc (Nat.le_refl _) _
  have z1 : (w.alloc (.cells ([.slice ao ln cap, .int .i64 (manyI c)] : List Value).toArray 35)).heap.size = w.heap.size + 1 := by simp
  go_enter Tryz.func79, Tryz.ntmps79
  go_wp2_with fail
  generalize w.alloc (.cells ([.slice ao ln cap, .int .i64 (manyI c)] : List Value).toArray 35) = w1 at *
  have hR := Blk.new w1 52 [.int .i64 0, .slice none 0 0]
  have hkR : Kept w1 (w1.alloc (.cells ([.int .i64 0, .slice none 0 0] : List Value).toArray 52)) := (Below.refl _ _).alloc (Nat.le_refl _) _
  have z2 : (w1.alloc (.cells ([.int .i64 0, .slice none 0 0] : List Value).toArray 52)).heap.size = w.heap.size + 1 + 1 := by simp [z1]
  rw [z1] at hR
  generalize w1.alloc (.cells ([.int .i64 0, .slice none 0 0] : List Value).toArray 52) = w2 at *
  have hA2 := hkR.blk hA
  have hK2 : Kept w w2 := hkA.trans' hkR
  have a0 := hA2.cell 0
  have a1 := hA2.cell 1
  simp only [List.getElem?_cons_zero, List.getElem?_cons_succ] at a0 a1
  clear hA hkA hkR z1
  go_wp2_with fail
  refine (at_ref kind 0 0 w2 (HM.out w2 hK2)).mono ?_; rintro e w3 ⟨rfl, hk3⟩
  rw [HD.out]
  have hA3 := hk3.blk hA2
  have hR3 := hk3.blk hR
  have z3 := hk3.size
  have hK3 : Kept w w3 := hK2.trans' hk3
  have hG := Blk.new w3 52 [.int .i64 hd, .slice none 0 0]
  have hkG : Kept w3 (w3.alloc (.cells ([.int .i64 hd, .slice none 0 0] : List Value).toArray 52)) := (Below.refl _ _).alloc (Nat.le_refl _) _
  have z4 : (w3.alloc (.cells ([.int .i64 hd, .slice none 0 0] : List Value).toArray 52)).heap.size = w3.heap.size + 1 := by simp
  clear a0 a1 hA2 hR hk3 hK2
  go_wp2_with fail
  generalize w3.alloc (.cells ([.int .i64 hd, .slice none 0 0] : List Value).toArray 52) = w4 at *
  have hA4 := hkG.blk hA3
  have hR4 := hkG.blk hR3
  have hK4 : Kept w w4 := hK3.trans' hkG
  obtain ⟨gk, hgk⟩ : ∃ g, g = w3.heap.size := ⟨_, rfl⟩
  rw [← hgk] at hG z3 z4 ⊢
  clear hA3 hR3 hkG hK3 hgk
  go_loopw [6] (fun pv wr => ∃ (q : Nat) (vl : Value), (q : Int) ≤ manyI c ∧ pv = .int .i64 ((q : Int) + 1) ∧ Blk wr gk 52 [.int .i64 hd, vl] ∧ wr.ownsRow (gk + 1) 3 1 vl q (((linksL c).take q).map (Value.int .i64)) ∧ Below gk w4 wr) (fun pv _ => 4000 - (intOf pv).toNat)
  case atStart => exact ⟨0, .slice none 0 0, by omega, rfl, hG, World.ownsRow_nil _ _ _ _, Below.refl _ _⟩
  case round =>
    obtain ⟨q, vl, hq, rfl, hGr, own, hbw⟩ := hrel
    have zr := hbw.size
    have hAr : Blk wr w.heap.size 35 [.slice ao ln cap, .int .i64 (manyI c)] := below_blk0 hbw hA4 (by omega)
    have hRr : Blk wr (w.heap.size + 1) 52 [.int .i64 0, .slice none 0 0] := below_blk0 hbw hR4 (by omega)
    have hKr : Kept w wr := hK4.trans (hbw.mono (by omega))
    obtain ⟨al, cl, rfl⟩ := own_slice own
    have lgk := hGr.lt
    by_cases hlt : (q : Int) + 1 ≤ manyI c
    · have HS := linksL_take (c := c) (q := q) (by omega)
      have HSS : Hid _ := HS
      clear HS
      obtain ⟨p, hp⟩ : ∃ p : Int, (q : Int) + 1 = p := ⟨_, rfl⟩
      have HPP : Hid ((q : Int) + 1 = p) := hp
      rw [hp] at HSS hlt ⊢
      have yp : IntKind.i64.wrap (p + 1) = p + 1 := IntWalk.i64_in _ (by omega)
      obtain ⟨lk, hlk⟩ : ∃ lk : Int, pPack c p 1 = lk := ⟨_, rfl⟩
      rw [hlk] at HSS
      have HLK : Hid (pPack c p 1 = lk) := hlk
      have hAd := hAr.drew
      have hGd := hGr.drew
      have hRd := hRr.drew
      have ownd := own.drew
      have hKd : Kept w wr.drew := hKr.drew
      have a0 := hAd.cell 0
      have a1 := hAd.cell 1
      have g1 := hGd.cell 1
      have a1r := hAr.cell 1
      simp only [List.getElem?_cons_zero, List.getElem?_cons_succ] at a0 a1 g1 a1r
      have hq2 : q < 2000 := by omega
      clear hp hlk
      go_wp2_with fail
      refine wp_region_z 8 (fun w' => w'.cell? ⟨gk, 1, none⟩ = some (.slice al q cl) ∧ w'.cell? ⟨w.heap.size, 0, none⟩ = some (.slice ao ln cap) ∧ w'.cell? ⟨w.heap.size, 1, none⟩ = some (.int .i64 (manyI c))) (by kernel_rfl) ?_
      refine wpAnyZ_take (i := 0) (v := ?v0z3) rfl (by kernel_rfl) (by kernel_rfl) (by kernel_rfl) (by kernel_rfl) (fun _ _ _ h => h) (Or.inl ⟨by rfl, ?hy0z3⟩) ⟨g1,a0,a1⟩ ?_
      case hy0z3 => intro w hSw; (try dsimp only at hSw); first | (go_simp; done) | (go_simp; with_reducible rfl)
      try simp only [Act.put, List.setIfInBounds_toArray]
      refine wpAnyZ_take (i := 1) (v := ?v1z3) rfl (by kernel_rfl) (by kernel_rfl) (by kernel_rfl) (by kernel_rfl) (fun _ _ _ h => h) (Or.inl ⟨by rfl, ?hy1z3⟩) ⟨g1,a0,a1⟩ ?_
      case hy1z3 => intro w hSw; (try dsimp only at hSw); first | (go_simp; done) | (go_simp; with_reducible rfl)
      try simp only [Act.put]
      refine wpAnyZ_take (i := 2) (v := ?v2z3) rfl (by kernel_rfl) (by kernel_rfl) (by kernel_rfl) (by kernel_rfl) (fun _ _ _ h => h) (Or.inl ⟨by rfl, ?hy2z3⟩) ⟨g1,a0,a1⟩ ?_
      case hy2z3 => intro w hSw; (try dsimp only at hSw); first | (go_simp; done) | (go_simp; with_reducible rfl)
      try simp only [Act.put]
      refine wpAnyZ_take (i := 3) (v := ?v3z3) rfl (by kernel_rfl) (by kernel_rfl) (by kernel_rfl) (by kernel_rfl) (fun _ _ _ h => h) (Or.inl ⟨by rfl, ?hy3z3⟩) ⟨g1,a0,a1⟩ ?_
      case hy3z3 => intro w hSw; (try dsimp only at hSw); first | (go_simp; done) | (go_simp; with_reducible rfl)
      try simp only [Act.put]
      refine wpAnyZ_one (i := 4) (by kernel_rfl) rfl (fun K hK => ?_)
      go_simp
      go_at_call 54
      refine (at_ref 12 p 0 _ (HM.out _ hKd)).mono ?_; rintro r w5 ⟨rfl, hk5⟩
      rw [HP.out, HLK.out]
      have hA5 := hk5.blk hAd
      have hG5 := hk5.blk hGd
      have hR5 := hk5.blk hRd
      have own5 := ownsRow_kept' ownd hk5
      have b0 := hA5.cell 0
      have b1 := hA5.cell 1
      have h1 := hG5.cell 1
      simp only [List.getElem?_cons_zero, List.getElem?_cons_succ] at b0 b1 h1
      refine hK.out _ _ (fun _ => ⟨h1, b0, b1⟩) ?_
      clear hK K
      try simp only [Act.put, List.setIfInBounds_toArray, List.set_cons_zero, List.set_cons_succ]
      refine wpAnyZ_one (i := 5) (by kernel_rfl) rfl (fun K hK => ?_)
      go_simp
      have hA6 := hA5.alloc (.cells #[.int .i64 lk] 3)
      have hG6 := hG5.alloc (.cells #[.int .i64 lk] 3)
      have d0 := hA6.cell 0
      have d1 := hA6.cell 1
      have e1 := hG6.cell 1
      simp only [List.getElem?_cons_zero, List.getElem?_cons_succ] at d0 d1 e1
      refine hK.out _ _ (fun _ => ⟨e1, d0, d1⟩) ?_
      clear hK K
      try simp only [Act.put, List.setIfInBounds_toArray, List.set_cons_zero, List.set_cons_succ]
      refine wpAnyZ_one (i := 6) (by kernel_rfl) rfl (fun K hK => ?_)
      have z5 := hk5.size
      simp at z5
      have z6 : gk < w5.heap.size := Nat.lt_of_lt_of_le lgk z5
      refine step_append_lies _ (by rfl) _ _ _ (by rfl) (gk + 1) 3 i0 _ 1 8 Tryz.underlying50 hi hz0 hz1 hz2 rfl (by omega) (.slice al q cl) q (((linksL c).take q).map (Value.int .i64)) (by rfl) (own5.alloc _)
        ⟨w5.heap.size, 0, none⟩ 1 1 [.int .i64 lk] (by rfl) (by rfl) (World.news_of_block (cs := #[.int .i64 lk]) (t := 3) (fr := (0, 0)) (heap_alloc_new w5 _)) (by simp [Value.oneCell'])
        (by omega) (by unfold maxLen; omega) (by omega) (by simp; omega) (w5.heap.size + 1) (by simp) ?_
      intro gt gcap w6 own6 hgrow hat hlt6
      have hro : ∀ g, Value.ownBlock (.slice al q cl) = some g → gk + 1 ≤ g := fun g e => (ownsRow_base own5 g e).1
      have hG7 := Blk.grown hG6 hgrow (fun e => by have := hro _ e; omega)
      have hA7 := Blk.grown hA6 hgrow (fun e => by have := hro _ e; omega)
      have hR7 := Blk.grown (hR5.alloc _) hgrow (fun e => by have := hro _ e; omega)
      have k0 := hA7.cell 0
      have k1 := hA7.cell 1
      have j1 := hG7.cell 1
      have f1 := hG7.free 1
      simp only [List.getElem?_cons_zero, List.getElem?_cons_succ] at k0 k1 j1
      refine hK.out _ _ (fun _ => ⟨j1, k0, k1⟩) ?_
      clear hK K
      try simp only [Act.put, List.setIfInBounds_toArray]
      refine wpAnyZ_one (i := 7) (by kernel_rfl) rfl (fun K hK => ?_)
      go_simp
      refine hK.out _ _ (fun _ => ⟨j1, k0, k1⟩) ?_
      clear hK K
      try simp only [Act.put, List.setIfInBounds_toArray, List.set_cons_zero, List.set_cons_succ]
      refine wpAnyZ_one (i := 8) (by kernel_rfl) rfl (fun K hK => ?_)
      go_simp
      refine hK.out _ _ (fun h => absurd rfl h) ?_
      refine wpAnyZ_done (by kernel_rfl) ?_ _
      clear hK K
      have hG8 : Blk (w6.setCell ⟨gk, 1, none⟩ (.slice (some ⟨gt, 0, none⟩) (q + 1) gcap)) gk 52 [.int .i64 hd, .slice (some ⟨gt, 0, none⟩) (q + 1) gcap] := hG7.set' 1 _ rfl
      have own8 := ownsRow_setCell_below own6 (a := ⟨gk, 1, none⟩) (show gk < gk + 1 by omega) (.slice (some ⟨gt, 0, none⟩) (q + 1) gcap)
      have hb8 : Below gk w4 (w6.setCell ⟨gk, 1, none⟩ (.slice (some ⟨gt, 0, none⟩) (q + 1) gcap)) := by
        have h1 : Below gk w4 w5 := hbw.drew.trans (hk5.mono (by simp; omega))
        have h2 : Below gk w4 w6 := (h1.alloc (by omega) _).grown hgrow (by simp; omega) (fun g e => by have := hro g e; omega)
        exact Below.setCell h2 (p := ⟨gk, 1, none⟩) (Nat.le_refl _) _
      generalize w6.setCell ⟨gk, 1, none⟩ (.slice (some ⟨gt, 0, none⟩) (q + 1) gcap) = w7 at *
      clear a0 a1 g1 b0 b1 h1 d0 d1 e1 k0 k1 j1 f1 a1r
      go_wp2_with fail
      go_roundw
      case rel => exact ⟨q + 1, _, by have := HPP.out; omega, by have := HPP.out; congr 1; push_cast; omega, hG8, by rw [HSS.out]; exact own8, hb8⟩
      case measure => have := HPP.out; simp [intOf]; omega
    · have hqm : (q : Int) = manyI c := by omega
      have hrow := Row.ofOwn own
      rw [List.take_of_length_le (by rw [linksL_len]; omega)] at hrow
      have a1 := hAr.cell 1
      have g0 := hGr.cell 0
      have g1 := hGr.cell 1
      have r0 := hRr.cell 0
      have r1 := hRr.cell 1
      have fr0 := hRr.free 0
      have fr1 := hRr.free 1
      simp only [List.getElem?_cons_zero, List.getElem?_cons_succ] at a1 g0 g1 r0 r1
      have HQ : Hid ((q : Int) = manyI c) := hqm
      clear hqm
      go_wp2_with fail
      have hG2 : Blk ((wr.setCell ⟨w.heap.size + 1, 0, none⟩ (.int .i64 hd)).setCell ⟨w.heap.size + 1, 1, none⟩ (.slice al q cl)) (w.heap.size + 1) 52 [.int .i64 hd, .slice al q cl] := (hRr.set' 0 _ rfl).set' 1 _ rfl
      have hc : Chg (fun k => k = w.heap.size + 1) wr ((wr.setCell ⟨w.heap.size + 1, 0, none⟩ (.int .i64 hd)).setCell ⟨w.heap.size + 1, 1, none⟩ (.slice al q cl)) := ((Chg.refl (fun k => k = w.heap.size + 1) wr).setCell ⟨w.heap.size + 1, 0, none⟩ _ (fun _ => rfl)).setCell ⟨w.heap.size + 1, 1, none⟩ _ (fun _ => rfl)
      have hK9 : Kept w ((wr.setCell ⟨w.heap.size + 1, 0, none⟩ (.int .i64 hd)).setCell ⟨w.heap.size + 1, 1, none⟩ (.slice al q cl)) := Below.setCell (Below.setCell hKr (p := ⟨w.heap.size + 1, 0, none⟩) (by simp) _) (p := ⟨w.heap.size + 1, 1, none⟩) (by simp) _
      have own9 := ownsRow_chg own hc (fun g e => by have := (ownsRow_base own g e).1; omega)
      generalize (wr.setCell ⟨w.heap.size + 1, 0, none⟩ (.int .i64 hd)).setCell ⟨w.heap.size + 1, 1, none⟩ (.slice al q cl) = w9 at *
      have s0 := hG2.cell 0
      have s1 := hG2.cell 1
      simp only [List.getElem?_cons_zero, List.getElem?_cons_succ] at s0 s1
      have hrow9 := Row.ofOwn own9
      rw [List.take_of_length_le (by have := HQ.out; rw [linksL_len]; omega)] at hrow9
      exact bodyPost_ret (v := .agg #[.int .i64 hd, .slice al q cl]) (by simp [results, Tryz.results79, go_sem, s0, s1]) rfl ⟨_, rfl, hrow9, hK9, fun g e => by have := (ownsRow_base own9 g e).1; omega⟩

end Go.Proofs.YtfbcadknimfhjaaGreat

/- A region that draws its order, whose last operation waits for all others: a law. Nothing of the program. A region that draws its order: a law for one that ends in no operation that waits for all others. Nothing of the program. Whole blocks, read and written at once. Nothing of the program. A region that draws its order: just two operations may come up: a law. Nothing of the program. -/
import Derived.Test.YtfbcadknimfhjaaGreatPkA
import Derived.Deep.RegionHeld3
import Derived.Test.YtfbcadknimfhjaaGreatPkH
import Derived.Deep.MidRow
import Derived.Laws.CopyRow
namespace Go.Proofs.YtfbcadknimfhjaaGreat
open Go Go.RowKit

section
variable {P : Program} {ops : Array Oper} {Q : Exit → Act → World → Prop} {md : Region.Mode} {S : World → Prop} {n : Nat}

/-- Whatever order is picked; S holds behind each operation but number n. -/
def wpAnyZ (P : Program) (md : Region.Mode) (ops : Array Oper) (Q : Exit → Act → World → Prop) (S : World → Prop) (n : Nat) : Nat → Array Bool → Act → World → Prop
  | 0, listed, a, w => Region.ready md ops listed = [] ∧ Q .normal a w
  | fuel + 1, listed, a, w => (Region.ready md ops listed = [] → Q .normal a w) ∧ ∀ i ∈ Region.ready md ops listed, wpOp P ops Q i (fun a' w' => (i ≠ n → S w') ∧ wpAnyZ P md ops Q S n fuel (listed.setIfInBounds i true) a' w') a w

theorem wpAny_of_Z : ∀ (fuel : Nat) (listed : Array Bool) (a : Act) (w : World), wpAnyZ P md ops Q S n fuel listed a w → wpAny P md ops Q fuel listed a w
  | 0, _, _, _, h => h
  | fuel + 1, _, _, _, h => ⟨h.1, fun i hi => wpOp_mono (fun a' w' h' => wpAny_of_Z fuel _ a' w' h'.2) (h.2 i hi)⟩

theorem wpAnyZ_first {i : Nat} {oi : Oper} {v : Value} (hi : ops[i]? = some oi) (hsel : ∀ (j : Nat) (o : Oper) cs b, ops[j]? = some o → o.op ≠ .select cs b)
    (hQ : ∀ c a w, Q (.panic c) (a.put oi.dst v) w → Q (.panic c) a w) (hn : ∃ o, ops[n]? = some o ∧ ∃ e ∈ o.after, Region.binds md e = true ∧ e.on = i) :
    ∀ (fuel : Nat) (listed : Array Bool) (a : Act) (w : World),
      (∀ j oj, ops[j]? = some oj → j ≠ i → listed.getD j true = false → (∀ e ∈ oj.after, Region.binds md e = true → e.on ≠ i) → oi.apart ops oj = true) →
      i ∈ Region.ready md ops listed → YieldsIf P ops S oi v a → S w →
      wpAnyZ P md ops Q S n fuel (listed.setIfInBounds i true) (a.put oi.dst v) w → wpAnyZ P md ops Q S n (fuel + 1) listed a w := by
  intro fuel
  have late : ∀ (listed : Array Bool), listed.getD i true = false → n ∉ Region.ready md ops listed := by
    intro listed hl hr
    obtain ⟨_, o, ho, hall⟩ := mem_ready.1 hr
    obtain ⟨o', ho', e, he, hb, hon⟩ := hn
    rw [ho] at ho'
    cases ho'
    have h1 := hall e he hb
    rw [hon] at h1
    rcases Nat.lt_or_ge i listed.size with h' | h'
    · simp [h'] at hl h1; rw [hl] at h1; cases h1
    · simp [Array.getElem?_eq_none h'] at h1
  induction fuel with
  | zero =>
    intro listed a w _ hr hy hS H
    refine ⟨fun h => (by rw [h] at hr; cases hr), fun j hj => ?_⟩
    by_cases hji : j = i
    · subst hji; exact hy.wpOp hi hS ⟨fun _ => hS, H⟩
    · have := ready_mono hj hji
      rw [H.1] at this
      cases this
  | succ fuel ih =>
    intro listed a w hfree hr hy hS H
    have hil := (mem_ready.1 hr).1
    refine ⟨fun h => (by rw [h] at hr; cases hr), fun j hj => ?_⟩
    by_cases hji : j = i
    · subst hji; exact hy.wpOp hi hS ⟨fun _ => hS, H⟩
    · have hjn : j ≠ n := fun e => late listed hil (e ▸ hj)
      have h1 := H.2 j (ready_mono hj hji)
      obtain ⟨hjun, oj, hoj, hall⟩ := mem_ready.1 hj
      have hnot : ∀ e ∈ oj.after, Region.binds md e = true → e.on ≠ i := fun e he hb heq => by
        have h1 := hall e he hb
        have h0 := hil
        rw [heq] at h1
        rcases Nat.lt_or_ge i listed.size with h' | h'
        · simp [h'] at h0 h1; rw [h0] at h1; cases h1
        · simp [Array.getElem?_eq_none h'] at h1
      have h2 := wpOp_putIf hoj (hfree j oj hoj hji hjun hnot) (fun cs b => hsel i oi cs b hi) (fun cs b => hsel j oj cs b hoj) hQ hy h1
      have hfree' : ∀ k ok, ops[k]? = some ok → k ≠ i → (listed.setIfInBounds j true).getD k true = false →
          (∀ e ∈ ok.after, Region.binds md e = true → e.on ≠ i) → oi.apart ops ok = true := fun k ok hk hki hun hno => by
        refine hfree k ok hk hki ?_ hno
        by_cases hjk : j = k
        · subst hjk; exact hjun
        · rw [getD_set_ne true hjk] at hun; exact hun
      refine wpOp_mono (fun a' w' h3 => ⟨fun _ => h3.2.1 hjn, ih (listed.setIfInBounds j true) a' w' hfree' (ready_mono hr (Ne.symm hji)) h3.1 (h3.2.1 hjn) ?_⟩) h2
      rw [Array.setIfInBounds_comm _ _ hji]
      exact h3.2.2

/-- Does operation n wait for operation i? -/
def waitsB (md : Region.Mode) (ops : Array Oper) (n i : Nat) : Bool := match ops[n]? with
  | some o => o.after.any fun e => Region.binds md e && e.on == i
  | none => false

theorem waits_spec {i : Nat} (h : waitsB md ops n i = true) : ∃ o, ops[n]? = some o ∧ ∃ e ∈ o.after, Region.binds md e = true ∧ e.on = i := by
  unfold waitsB at h
  split at h
  · next o ho =>
    rw [Array.any_eq_true'] at h
    obtain ⟨e, he, h2⟩ := h
    simp only [Bool.and_eq_true, beq_iff_eq] at h2
    exact ⟨o, ho, e, he, h2.1, h2.2⟩
  · cases h

theorem wpAnyZ_take {i : Nat} {oi : Oper} {v : Value} {fuel : Nat} {listed : Array Bool} {a : Act} {w : World} (hi : ops[i]? = some oi)
    (hs : Region.noSelect ops = true) (hf : Region.free md ops listed i = true) (hr : (Region.ready md ops listed).contains i = true) (hn : waitsB md ops n i = true)
    (hQ : ∀ c a w, Q (.panic c) (a.put oi.dst v) w → Q (.panic c) a w) (hy : YieldsIf P ops S oi v a) (hS : S w)
    (h : wpAnyZ P md ops Q S n fuel (listed.setIfInBounds i true) (a.put oi.dst v) w) : wpAnyZ P md ops Q S n (fuel + 1) listed a w :=
  wpAnyZ_first hi (Region.noSelect_spec hs) hQ (waits_spec hn) fuel listed a w (Region.free_spec hi hf) (by simpa using hr) hy hS h

/-- Just one may come up. -/
theorem wpAnyZ_one {i : Nat} {o : Oper} {fuel : Nat} {listed : Array Bool} {a : Act} {w : World} (hr : Region.ready md ops listed = [i]) (ho : ops[i]? = some o)
    (h : ∀ K' : Act → World → Prop, Shut (∀ a w, (i ≠ n → S w) → wpAnyZ P md ops Q S n fuel (listed.setIfInBounds i true) a w → K' a w) → if Region.wanted o (yielded ops a.tmps) = true then Oper.wp P o a w K' Q else K' (a.put o.dst undef) w) : wpAnyZ P md ops Q S n (fuel + 1) listed a w := by
  refine ⟨fun h0 => (by rw [hr] at h0; cases h0), fun j hj => ?_⟩
  rw [hr] at hj
  simp at hj
  subst hj
  exact wpOp_step ho (fun K' hK => h K' (fun a w hS hW => hK a w ⟨hS, hW⟩))

theorem wpAnyZ_done {listed : Array Bool} {a : Act} {w : World} (hr : Region.ready md ops listed = []) (h : Q .normal a w) : ∀ fuel, wpAnyZ P md ops Q S n fuel listed a w
  | 0 => ⟨hr, h⟩
  | _ + 1 => ⟨fun _ => h, by rw [hr]; simp⟩

theorem wp_region_z {id : Nat} {a : Act} {w : World} (n : Nat) (S : World → Prop) (hm : P.follows .mixedOrders = true)
    (h : wpAnyZ P .any ops Q S n ops.size (Array.replicate ops.size false) a w.drew) : (Code.region id ops true).wp P Q a w :=
  wp_region_any hm (wpAny_of_Z _ _ _ _ h)

end

end Go.Proofs.YtfbcadknimfhjaaGreat

namespace Go.Proofs.YtfbcadknimfhjaaGreat
open Go Go.RowKit

section
variable {P : Program} {ops : Array Oper} {Q : Exit → Act → World → Prop} {md : Region.Mode} {S : World → Prop} {n : Nat}

theorem wpAnyZ_firstN {i : Nat} {oi : Oper} {v : Value} (hi : ops[i]? = some oi) (hsel : ∀ (j : Nat) (o : Oper) cs b, ops[j]? = some o → o.op ≠ .select cs b)
    (hQ : ∀ c a w, Q (.panic c) (a.put oi.dst v) w → Q (.panic c) a w) (hn : ops[n]? = none) :
    ∀ (fuel : Nat) (listed : Array Bool) (a : Act) (w : World),
      (∀ j oj, ops[j]? = some oj → j ≠ i → listed.getD j true = false → (∀ e ∈ oj.after, Region.binds md e = true → e.on ≠ i) → oi.apart ops oj = true) →
      i ∈ Region.ready md ops listed → YieldsIf P ops S oi v a → S w →
      wpAnyZ P md ops Q S n fuel (listed.setIfInBounds i true) (a.put oi.dst v) w → wpAnyZ P md ops Q S n (fuel + 1) listed a w := by
  intro fuel
  induction fuel with
  | zero =>
    intro listed a w _ hr hy hS H
    refine ⟨fun h => (by rw [h] at hr; cases hr), fun j hj => ?_⟩
    by_cases hji : j = i
    · subst hji; exact hy.wpOp hi hS ⟨fun _ => hS, H⟩
    · have := ready_mono hj hji
      rw [H.1] at this
      cases this
  | succ fuel ih =>
    intro listed a w hfree hr hy hS H
    have hil := (mem_ready.1 hr).1
    refine ⟨fun h => (by rw [h] at hr; cases hr), fun j hj => ?_⟩
    by_cases hji : j = i
    · subst hji; exact hy.wpOp hi hS ⟨fun _ => hS, H⟩
    · have h1 := H.2 j (ready_mono hj hji)
      obtain ⟨hjun, oj, hoj, hall⟩ := mem_ready.1 hj
      have hjn : j ≠ n := fun e => by rw [e, hn] at hoj; cases hoj
      have hnot : ∀ e ∈ oj.after, Region.binds md e = true → e.on ≠ i := fun e he hb heq => by
        have h1 := hall e he hb
        have h0 := hil
        rw [heq] at h1
        rcases Nat.lt_or_ge i listed.size with h' | h'
        · simp [h'] at h0 h1; rw [h0] at h1; cases h1
        · simp [Array.getElem?_eq_none h'] at h1
      have h2 := wpOp_putIf hoj (hfree j oj hoj hji hjun hnot) (fun cs b => hsel i oi cs b hi) (fun cs b => hsel j oj cs b hoj) hQ hy h1
      have hfree' : ∀ k ok, ops[k]? = some ok → k ≠ i → (listed.setIfInBounds j true).getD k true = false →
          (∀ e ∈ ok.after, Region.binds md e = true → e.on ≠ i) → oi.apart ops ok = true := fun k ok hk hki hun hno => by
        refine hfree k ok hk hki ?_ hno
        by_cases hjk : j = k
        · subst hjk; exact hjun
        · rw [getD_set_ne true hjk] at hun; exact hun
      refine wpOp_mono (fun a' w' h3 => ⟨fun _ => h3.2.1 hjn, ih (listed.setIfInBounds j true) a' w' hfree' (ready_mono hr (Ne.symm hji)) h3.1 (h3.2.1 hjn) ?_⟩) h2
      rw [Array.setIfInBounds_comm _ _ hji]
      exact h3.2.2

theorem wpAnyZ_takeN {i : Nat} {oi : Oper} {v : Value} {fuel : Nat} {listed : Array Bool} {a : Act} {w : World} (hi : ops[i]? = some oi)
    (hs : Region.noSelect ops = true) (hf : Region.free md ops listed i = true) (hr : (Region.ready md ops listed).contains i = true) (hn : ops[n]? = none)
    (hQ : ∀ c a w, Q (.panic c) (a.put oi.dst v) w → Q (.panic c) a w) (hy : YieldsIf P ops S oi v a) (hS : S w)
    (h : wpAnyZ P md ops Q S n fuel (listed.setIfInBounds i true) (a.put oi.dst v) w) : wpAnyZ P md ops Q S n (fuel + 1) listed a w :=
  wpAnyZ_firstN hi (Region.noSelect_spec hs) hQ hn fuel listed a w (Region.free_spec hi hf) (by simpa using hr) hy hS h

end

end Go.Proofs.YtfbcadknimfhjaaGreat

namespace Go.Proofs.YtfbcadknimfhjaaGreat
open Go Go.RowKit

section
variable {P : Program}

/-- A part of a block, at once. -/
theorem Blk.loadMid {w : World} {b : Nat} {t : TypeId} {l : List Value} (h : Blk w b t l) (o : Nat) (cs : List Value) (ty : TypeId) (d : TypeDesc) (hc : (l.drop o).take cs.length = cs) (hu : P.underlying ty = some d) (hd : d.isRow = true) (hi : (P.info? ty).map (·.size) = some cs.length) :
    (Instr.loadAt ty (.pointer (some ⟨b, o, none⟩))).run P w = .ok (.agg cs.toArray) w :=
  run_loadAt_mid w b o ty cs d (fun j v hv => by
    rw [Blk.cell h]
    rw [← hc, List.getElem?_take] at hv
    split at hv
    · rw [List.getElem?_drop] at hv; exact hv
    · cases hv) hu hd hi

theorem Blk.setRow {w : World} {b : Nat} {t : TypeId} {l : List Value} (h : Blk w b t l) (l' : List Value) : Blk (w.setRow b l'.toArray) b t l' := setRow_heap w b _ _ t _ h

theorem setRow_other (w : World) (b q : Nat) (cs : Array Value) (hn : q ≠ b) : (w.setRow b cs).heap[q]? = w.heap[q]? := by
  unfold World.setRow
  simp only [Array.getElem?_modify]
  rw [if_neg (Ne.symm hn)]

theorem setRow_size (w : World) (b : Nat) (cs : Array Value) : (w.setRow b cs).heap.size = w.heap.size := by
  unfold World.setRow; simp

theorem Chg.setRow {w w' : World} {S : Nat → Prop} (k : Chg S w w') (b : Nat) (cs : Array Value) (hS : b < w.heap.size → S b) : Chg S w (w'.setRow b cs) :=
  ⟨k.os, k.tape, k.output, by rw [setRow_size]; exact k.size, fun q hq hn => by
    rw [setRow_other _ _ _ _ (fun e => hn (by rw [e] at hq ⊢; exact hS hq))]; exact k.block q hq hn⟩

theorem Below.setRow {w w' : World} {B : Nat} (k : Below B w w') {b : Nat} (cs : Array Value) (hB : B ≤ b) : Below B w (w'.setRow b cs) :=
  ⟨k.os, k.tape, k.output, by rw [setRow_size]; exact k.size, fun q hq => by
    rw [setRow_other _ _ _ _ (by omega)]; exact k.block q hq⟩

/-- Into a part of a block, at once. -/
theorem Blk.storeMid {w : World} {b : Nat} {t : TypeId} {l : List Value} (h : Blk w b t l) (o : Nat) (vs l' : List Value) (ty : TypeId) (e : l.take o ++ vs ++ l.drop (o + vs.length) = l') (hl : o + vs.length ≤ l.length) (h1 : vs.all (·.oneCell') = true) (hi : (P.info? ty).map (·.size) = some vs.length) :
    (Instr.storeAt ty (.pointer (some ⟨b, o, none⟩)) (.agg vs.toArray)).run P w = .ok () (w.setRow b l'.toArray) := by
  have := run_storeCells_at (P := P) b o t vs 0 l.toArray w h (by simpa using hl) (fun v hv => (List.all_eq_true.1 h1) v hv)
  simp only [Nat.add_zero] at this
  rw [e] at this
  cases hq : P.info? ty with
  | none => simp [hq] at hi
  | some i =>
    have hs : vs.length = i.size := by simp [hq] at hi; omega
    simp only [Instr.storeAt, Instr.sureAddr, Sem.run_bind, Sem.run_pure, Result.andThen_ok]
    simp [storeVar, sizeOf, typeInfo, hq, Value.cells, hs, this]

theorem Blk.range {w : World} {b : Nat} {t : TypeId} {l : List Value} (h : Blk w b t l) (o : Nat) (cs : List Value) (hc : (l.drop o).take cs.length = cs) : w.rangeAt b o cs := fun j v hv => by
  rw [Blk.cell h]
  rw [← hc, List.getElem?_take] at hv
  split at hv
  · rw [List.getElem?_drop] at hv; exact hv
  · cases hv

/-- The operation: into a part of a block, at once. -/
theorem wp_store_row {op : Oper} {a : Act} {w : World} {K : Act → World → Prop} {Q : Exit → Act → World → Prop} (ty : TypeId) (x y : Operand) (ho : op.op = .store ty x y) {b : Nat} {t : TypeId} {l : List Value} (h : Blk w b t l) (o : Nat) (hx : a.eval x = .pointer (some ⟨b, o, none⟩)) (vs l' : List Value) (hy : a.eval y = .agg vs.toArray)
    (e : l.take o ++ vs ++ l.drop (o + vs.length) = l') (hl : o + vs.length ≤ l.length) (h1 : vs.all (·.oneCell') = true) (hi : (P.info? ty).map (·.size) = some vs.length) (hk : K (a.put op.dst undef) (w.setRow b l'.toArray)) : op.wp P a w K Q := by
  unfold Oper.wp execOp
  simp only [ho, hx, hy, Sem.run_bind, Blk.storeMid h o vs l' ty e hl h1 hi, Result.andThen_ok, Sem.run_pure]
  exact hk

theorem wpList_store_row {ops : Array Oper} {rest : List Oper} {op : Oper} {a : Act} {w : World} {Q : Exit → Act → World → Prop} (hgd : op.guard = none) (ty : TypeId) (x y : Operand) (ho : op.op = .store ty x y) {b : Nat} {t : TypeId} {l : List Value} (h : Blk w b t l) (o : Nat) (hx : a.eval x = .pointer (some ⟨b, o, none⟩)) (vs l' : List Value) (hy : a.eval y = .agg vs.toArray)
    (e : l.take o ++ vs ++ l.drop (o + vs.length) = l') (hl : o + vs.length ≤ l.length) (h1 : vs.all (·.oneCell') = true) (hi : (P.info? ty).map (·.size) = some vs.length) (hk : wpList P ops Q rest (a.put op.dst undef) (w.setRow b l'.toArray)) : wpList P ops Q (op :: rest) a w :=
  wpList_plain hgd fun _ hK => wp_store_row ty x y ho h o hx vs l' hy e hl h1 hi (hK _ _ hk)

theorem wpList_load_row {ops : Array Oper} {rest : List Oper} {op : Oper} {a : Act} {w : World} {Q : Exit → Act → World → Prop} (hgd : op.guard = none) (ty : TypeId) (x : Operand) (ho : op.op = .load ty x) {b : Nat} {t : TypeId} {l : List Value} (h : Blk w b t l) (o : Nat) (hx : a.eval x = .pointer (some ⟨b, o, none⟩)) (cs : List Value) (hc : (l.drop o).take cs.length = cs) (d : TypeDesc)
    (hu : P.underlying ty = some d) (hd : d.isRow = true) (hi : (P.info? ty).map (·.size) = some cs.length) (hk : wpList P ops Q rest (a.put op.dst (.agg cs.toArray)) w) : wpList P ops Q (op :: rest) a w :=
  wpList_load_mid hgd ty x ho b o hx cs d (Blk.range h o cs hc) hu hd hi hk

/-- A function's results: a value, and what lies in a whole block. -/
theorem results_tc {fn : Func} {tmps : Array Value} {w : World} {t0 a : Nat} {ty : TypeId} (hfn : fn.results = #[.tmp t0, .cell a ty]) {v0 : Value} (h0 : tmps.getD t0 undef = v0) {b : Nat} (ha : tmps.getD a undef = .pointer (some ⟨b, 0, none⟩)) {t : TypeId} {l : List Value} (h : Blk w b t l) (d : TypeDesc) (hu : P.underlying ty = some d) (hd : d.isRow = true) (hi : (P.info? ty).map (·.size) = some l.length) :
    (results fn tmps).run P w = .ok (.tuple #[v0, .agg l.toArray]) w := by
  have hl := run_loadVar_mid w b 0 ty l d (Blk.range h 0 l (by simp)) hu hd hi
  rw [Array.getD_eq_getD_getElem?] at h0 ha
  unfold results
  rw [hfn]
  simp [h0, ha, asAddr, hl]

theorem results_c {fn : Func} {tmps : Array Value} {w : World} {a : Nat} {ty : TypeId} (hfn : fn.results = #[.cell a ty]) {b : Nat} (ha : tmps.getD a undef = .pointer (some ⟨b, 0, none⟩)) {t : TypeId} {l : List Value} (h : Blk w b t l) (d : TypeDesc) (hu : P.underlying ty = some d) (hd : d.isRow = true) (hi : (P.info? ty).map (·.size) = some l.length) :
    (results fn tmps).run P w = .ok (.agg l.toArray) w := by
  have hl := run_loadVar_mid w b 0 ty l d (Blk.range h 0 l (by simp)) hu hd hi
  rw [Array.getD_eq_getD_getElem?] at ha
  unfold results
  rw [hfn]
  simp [ha, asAddr, hl]

end

end Go.Proofs.YtfbcadknimfhjaaGreat

namespace Go.Proofs.YtfbcadknimfhjaaGreat
open Go Go.RowKit

section
variable {P : Program} {ops : Array Oper} {Q : Exit → Act → World → Prop} {md : Region.Mode} {S : World → Prop} {n : Nat}

/-- Just two may come up. -/
theorem wpAnyZ_two {i j : Nat} {o p : Oper} {fuel : Nat} {listed : Array Bool} {a : Act} {w : World} (hr : Region.ready md ops listed = [i, j]) (ho : ops[i]? = some o) (hp : ops[j]? = some p)
    (h1 : ∀ K' : Act → World → Prop, Shut (∀ a w, (i ≠ n → S w) → wpAnyZ P md ops Q S n fuel (listed.setIfInBounds i true) a w → K' a w) → if Region.wanted o (yielded ops a.tmps) = true then Oper.wp P o a w K' Q else K' (a.put o.dst undef) w)
    (h2 : ∀ K' : Act → World → Prop, Shut (∀ a w, (j ≠ n → S w) → wpAnyZ P md ops Q S n fuel (listed.setIfInBounds j true) a w → K' a w) → if Region.wanted p (yielded ops a.tmps) = true then Oper.wp P p a w K' Q else K' (a.put p.dst undef) w) : wpAnyZ P md ops Q S n (fuel + 1) listed a w := by
  refine ⟨fun h0 => (by rw [hr] at h0; cases h0), fun k hk => ?_⟩
  rw [hr] at hk
  simp at hk
  rcases hk with rfl | rfl
  · exact wpOp_step ho (fun K' hK => h1 K' (fun a w hS hW => hK a w ⟨hS, hW⟩))
  · exact wpOp_step hp (fun K' hK => h2 K' (fun a w hS hW => hK a w ⟨hS, hW⟩))

end

end Go.Proofs.YtfbcadknimfhjaaGreat

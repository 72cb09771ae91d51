/- A marker's task that is put somewhere: any step of its machine: walked. -/
import Derived.Test.YtmghijndjdbdfaaAdd5
import Derived.Test.YtmghijndjdbdfaaGrow
namespace Go.Proofs.Ytmghijndjdbdfaa
open Go.RowKit

theorem DqAt.chg {w w' : World} {S : Nat → Prop} {b q1 q2 : Nat} {e : DEnds} {d : DQ} (h : DqAt w b q1 q2 e d) (k : Chg S w w') (h1 : ¬ S b) (h2 : ¬ S q1) (h3 : ¬ S q2) : DqAt w' b q1 q2 e d :=
  ⟨h.ap, h.ok, h.eok, k.blk h.blk h1, fun f e => ⟨k.blk (h.box f e).1 h2, k.blk (h.box f e).2 h3⟩⟩

def APc.fin : APc → Bool
  | .done => true
  | _ => false

/-- Add's machine stands at block a; it owns O. -/
structure AmAt (w : World) (a bm bs bl : Nat) (c : Cfg) (i : Int) (s : AM) (O : Nat → Prop) : Prop where
  ux : U s.task
  own : ∀ k, O k → k < w.heap.size ∧ k ≠ bs ∧ k ≠ bl
  ain : O a
  ex : ∃ pd pp, Blk w a 66 (amL bm s.task pd pp s.spilled (s.pc.val a)) ∧
    (s.pc = .own → s.spilled = false ∧ s.dq.pc.fin = false ∧ ∃ b q1 q2, pd = .pointer (some ⟨b, 0, none⟩) ∧ DqAt w b q1 q2 (endsOf c i) s.dq ∧ O b ∧ O q1 ∧ O q2 ∧ a ≠ b ∧ a ≠ q1 ∧ a ≠ q2) ∧
    (s.pc = .pool → s.put.pc.fin = false ∧ PmOk s.put ∧ ∃ b bi gt, pp = .pointer (some ⟨b, 0, none⟩) ∧ PmAt w b bi gt bm bs bl s.put ∧ O b ∧ O bi ∧ O gt ∧ a ≠ b ∧ a ≠ bi ∧ a ≠ gt)

theorem AmAt.chg {w w' : World} {S : Nat → Prop} {a bm bs bl : Nat} {c : Cfg} {i : Int} {s : AM} {O : Nat → Prop} (h : AmAt w a bm bs bl c i s O) (k : Chg S w w') (hS : ∀ q, O q → ¬ S q) : AmAt w' a bm bs bl c i s O := by
  obtain ⟨ux, own, ain, pd, pp, hA, h1, h2⟩ := h
  refine ⟨ux, fun q hq => ⟨Nat.lt_of_lt_of_le (own q hq).1 k.size, (own q hq).2⟩, ain, pd, pp, k.blk hA (hS _ ain), fun e => ?_, fun e => ?_⟩
  · obtain ⟨x1, x2, b, q1, q2, rfl, hd, o1, o2, o3, n⟩ := h1 e
    exact ⟨x1, x2, b, q1, q2, rfl, hd.chg k (hS _ o1) (hS _ o2) (hS _ o3), o1, o2, o3, n⟩
  · obtain ⟨x1, x2, b, bi, gt, rfl, hp, o1, o2, o3, n⟩ := h2 e
    exact ⟨x1, x2, b, bi, gt, rfl, hp.chg k (hS _ o1) (hS _ o2) (hS _ o3), o1, o2, o3, n⟩

theorem AmAt.more {w : World} {a bm bs bl : Nat} {c : Cfg} {i : Int} {s : AM} {O O' : Nat → Prop} (h : AmAt w a bm bs bl c i s O) (hO : ∀ k, O k → O' k) (hO' : ∀ k, O' k → k < w.heap.size ∧ k ≠ bs ∧ k ≠ bl) : AmAt w a bm bs bl c i s O' := by
  obtain ⟨ux, own, ain, pd, pp, hA, h1, h2⟩ := h
  refine ⟨ux, hO', hO _ ain, pd, pp, hA, fun e => ?_, fun e => ?_⟩
  · obtain ⟨x1, x2, b, q1, q2, rfl, hd, o1, o2, o3, n⟩ := h1 e
    exact ⟨x1, x2, b, q1, q2, rfl, hd, hO _ o1, hO _ o2, hO _ o3, n⟩
  · obtain ⟨x1, x2, b, bi, gt, rfl, hp, o1, o2, o3, n⟩ := h2 e
    exact ⟨x1, x2, b, bi, gt, rfl, hp, hO _ o1, hO _ o2, hO _ o3, n⟩

/-- A put of one task. -/
abbrev putOne (x : Int) : PM := ⟨.spare, [x], 0, 0, ⟨.popHead, 5, 0, 0, 0⟩⟩

theorem putOne_ok (x : Int) : PmOk (putOne x) := ⟨fun _ => ⟨rfl, Nat.zero_lt_one⟩, fun e => by cases e⟩

/-- One step of add's machine. -/
def amStep (c : Cfg) (i : Int) (mem : List Int) (s : AM) : List Int × AM :=
  match s.pc with
  | .done => (mem, s)
  | .own => ((dqStep (endsOf c i) mem s.dq).1,
      if (dqStep (endsOf c i) mem s.dq).2.pc.fin then
        (if (dqStep (endsOf c i) mem s.dq).2.out = 2 then ⟨.pool, s.task, (dqStep (endsOf c i) mem s.dq).2, putOne s.task, true⟩ else ⟨.done, s.task, (dqStep (endsOf c i) mem s.dq).2, s.put, s.spilled⟩)
      else ⟨.own, s.task, (dqStep (endsOf c i) mem s.dq).2, s.put, s.spilled⟩)
  | .pool => ((pmStep c mem s.put).1, ⟨if (pmStep c mem s.put).2.pc.fin then .done else .pool, s.task, s.dq, (pmStep c mem s.put).2, s.spilled⟩)

theorem dfin_iff {q : DPc} : q.fin = true ↔ q = .done := by cases q <;> simp [DPc.fin]

theorem aown_does {a bm bs bl B : Nat} {c : Cfg} {i : Int} {s : AM} {O : Nat → Prop} {mem : List Int} {n : Int} (w : World) (h : AmAt w a bm bs bl c i s O) (hs : StoreAt w bs bl mem n) (hm : MapAt w B bm c) (hB : B ≤ w.heap.size) (hO : ∀ k, O k → B ≤ k) (hBs : B ≤ bs) (hBl : B ≤ bl) (hp : s.pc = .own) :
    Calls Try.prog 39 #[.pointer (some ⟨a, 0, none⟩), .pointer (some ⟨bs, 0, none⟩)] w fun r w' => r = .returned (.tuple #[]) ∧ AmAt w' a bm bs bl c i (amStep c i mem s).2 (Grow O w w') ∧ StoreAt w' bs bl (amStep c i mem s).1 (cnt n) ∧ Chg (OwnB O bs bl) w w' := by
  obtain ⟨pc, task, dq, put, sp⟩ := s
  obtain ⟨ux, own, ain, pd, pp, hA, ho, _⟩ := h
  simp only at hp hA ho ux
  subst hp
  obtain ⟨rfl, hdf, b, q1, q2, rfl, hd, ob, oq1, oq2, n1, n2, n3⟩ := ho rfl
  have ob' := own b ob
  have oa' := own a ain
  have oq1' := own q1 oq1
  have oq2' := own q2 oq2
  obtain ⟨ls, ll⟩ := hs.lt
  have hcm : ∀ k, AmB a b bs bl k → OwnB O bs bl k := by
    rintro k (rfl | rfl | rfl | rfl)
    · exact .inl ain
    · exact .inl ob
    · exact .inr (.inl rfl)
    · exact .inr (.inr rfl)
  simp only [amStep]
  cases hf : (dqStep (endsOf c i) mem dq).2.pc.fin
  · simp only [Bool.false_eq_true, if_false]
    refine (own_more w hA hd hs ob'.2.1 ob'.2.2 n1 oa'.2.1 oa'.2.2 hdf hf).mono ?_
    rintro r w' ⟨rfl, hA', hd', hs', hc'⟩
    exact ⟨rfl, ⟨ux, grow_ok own hc'.size ls ll, .inl ain, _, _, hA', fun _ => ⟨rfl, hf, b, q1, q2, rfl, hd', .inl ob, .inl oq1, .inl oq2, n1, n2, n3⟩, fun e => by cases e⟩, hs', hc'.mono (fun k _ e => hcm k e)⟩
  · simp only [if_true]
    by_cases ho2 : (dqStep (endsOf c i) mem dq).2.out = 2
    · simp only [if_pos ho2]
      refine (own_full w hm hB (hO b ob) (hO a ain) hBs hBl ux hA hd hs ob'.2.1 ob'.2.2 n1 oa'.2.1 oa'.2.2 hdf (dfin_iff.1 hf) ho2).mono ?_
      rintro r w' ⟨rfl, pb, pbi, pgt, hA', hp', z1, z2, z3, z4, hs', hc'⟩
      have z5 : pb < w'.heap.size := by obtain ⟨_, _, hbb, _⟩ := hp'.ex; exact hbb.lt
      have z6 : pbi < w'.heap.size := by obtain ⟨_, _, _, _, hin⟩ := hp'.ex; obtain ⟨_, ⟨_, _, hq⟩, _⟩ := hin trivial; exact hq.lt
      exact ⟨rfl, ⟨ux, grow_ok own hc'.size ls ll, .inl ain, _, _, hA', fun e => (by cases e), fun _ => ⟨rfl, putOne_ok _, pb, pbi, pgt, rfl, hp', .inr ⟨z1, z5⟩, .inr ⟨z2, z6⟩, .inr ⟨z3, z4⟩, by omega, by omega, by omega⟩⟩, hs', hc'.mono (fun k _ e => hcm k e)⟩
    · simp only [if_neg ho2]
      refine (own_done w hA hd hs ob'.2.1 ob'.2.2 n1 oa'.2.1 oa'.2.2 hdf (dfin_iff.1 hf) ho2).mono ?_
      rintro r w' ⟨rfl, hA', hd', hs', hc'⟩
      exact ⟨rfl, ⟨ux, grow_ok own hc'.size ls ll, .inl ain, _, _, hA', fun e => (by cases e), fun e => by cases e⟩, hs', hc'.mono (fun k _ e => hcm k e)⟩

theorem apool_does {a bm bs bl B : Nat} {c : Cfg} {i : Int} {s : AM} {O : Nat → Prop} {mem : List Int} {n : Int} (w : World) (hg : Good c) (h : AmAt w a bm bs bl c i s O) (hs : StoreAt w bs bl mem n) (hm : MapAt w B bm c) (hp : s.pc = .pool) :
    Calls Try.prog 64 #[.pointer (some ⟨a, 0, none⟩), .pointer (some ⟨bs, 0, none⟩)] w fun r w' => r = .returned (.tuple #[]) ∧ AmAt w' a bm bs bl c i (amStep c i mem s).2 (Grow O w w') ∧ StoreAt w' bs bl (amStep c i mem s).1 (cnt n) ∧ Chg (OwnB O bs bl) w w' := by
  obtain ⟨pc, task, dq, put, sp⟩ := s
  obtain ⟨ux, own, ain, pd, pp, hA, _, ho⟩ := h
  simp only at hp hA ho ux
  subst hp
  obtain ⟨hpf, hok, b, bi, gt, rfl, hpm, ob, obi, ogt, n1, n2, n3⟩ := ho rfl
  have ob' := own b ob
  have oa' := own a ain
  have obi' := own bi obi
  have ogt' := own gt ogt
  obtain ⟨ls, ll⟩ := hs.lt
  have hcm : ∀ k, (k = a ∨ PmB b bi bs bl k) → OwnB O bs bl k := by
    rintro k (rfl | rfl | rfl | rfl | rfl)
    · exact .inl ain
    · exact .inl ob
    · exact .inl obi
    · exact .inr (.inl rfl)
    · exact .inr (.inr rfl)
  simp only [amStep]
  have hap := hpm.ap
  refine (pool_any w hg hA hpm hs hm ogt'.1 hok n1 oa'.2.1 oa'.2.2 n2 n3).mono ?_
  rintro r w' ⟨rfl, hA', ⟨bi', hp', hbi⟩, hs', hc'⟩
  rw [hpf] at hs'
  obtain ⟨b2, hp2, hb2⟩ := hp'.home (bi := bi) ⟨hap.1, hap.2.2.2.1, hap.2.2.2.2.1, hap.2.2.2.2.2.2.1⟩
  have hok' := pmStep_ok (c := c) (mem := mem) hok
  have hG : Grow O w w' b2 := by
    rcases hb2 with rfl | ⟨rfl, hlt⟩
    · exact .inl obi
    · rcases hbi with rfl | hbi
      · exact .inl obi
      · exact .inr ⟨hbi, hlt⟩
  have hn2 : a ≠ b2 := by
    rcases hb2 with rfl | ⟨rfl, hlt⟩
    · exact n2
    · rcases hbi with rfl | hbi
      · exact n2
      · have := oa'.1; omega
  cases hf : (pmStep c mem put).2.pc.fin
  · rw [hf] at hA'
    simp only [Bool.false_eq_true, if_false] at hA' ⊢
    exact ⟨by first | rfl | trivial, ⟨ux, grow_ok own hc'.size ls ll, .inl ain, _, _, hA', fun e => (by cases e), fun _ => ⟨hf, hok', b, b2, gt, rfl, hp2, .inl ob, hG, .inl ogt, n1, hn2, n3⟩⟩, hs', hc'.mono (fun k _ e => hcm k e)⟩
  · rw [hf] at hA'
    simp only [if_true] at hA' ⊢
    exact ⟨by first | rfl | trivial, ⟨ux, grow_ok own hc'.size ls ll, .inl ain, _, _, hA', fun e => (by cases e), fun e => by cases e⟩, hs', hc'.mono (fun k _ e => hcm k e)⟩

theorem aval_func {q : APc} (a : Nat) (h : q.fin = false) : ∃ f : FuncId, q.val a = .func (.func f) #[.pointer (some ⟨a, 0, none⟩)] #[] := by
  cases q
  · cases h
  all_goals exact ⟨_, rfl⟩

theorem aval_done {q : APc} (a : Nat) (h : q.fin = true) : q.val a = .nilFunc := by
  cases q
  · rfl
  all_goals cases h

set_option maxRecDepth 8000 in
/-- Any step of add's machine. -/
theorem astep_any {a bm bs bl B : Nat} {c : Cfg} {i : Int} {s : AM} {O : Nat → Prop} {mem : List Int} {n : Int} (w : World) (hg : Good c) (h : AmAt w a bm bs bl c i s O) (hs : StoreAt w bs bl mem n) (hm : MapAt w B bm c) (hB : B ≤ w.heap.size) (hO : ∀ k, O k → B ≤ k) (hBs : B ≤ bs) (hBl : B ≤ bl) :
    Calls Try.prog 35 #[.pointer (some ⟨a, 0, none⟩), .pointer (some ⟨bs, 0, none⟩)] w fun r w' => r = .returned (.bool (amStep c i mem s).2.pc.fin) ∧ AmAt w' a bm bs bl c i (amStep c i mem s).2 (Grow O w w') ∧ StoreAt w' bs bl (amStep c i mem s).1 (cntIf s.pc.fin n) ∧ Chg (OwnB O bs bl) w w' := by
  obtain ⟨pd, pp, hA, _⟩ := h.ex
  have g5 := hA.cell 5
  simp only [List.getElem?_cons_zero, List.getElem?_cons_succ] at g5
  have hn0 := func_eql0
  have hn1 := func_eql
  cases hq : s.pc
  case done =>
    have hst : amStep c i mem s = (mem, s) := by unfold amStep; rw [hq]
    rw [hst]
    rw [hq] at g5
    simp only [APc.val] at g5
    have hfin : s.pc.fin = true := by rw [hq]; rfl
    have H : Hid (AmAt w a bm bs bl c i s O) := h
    clear h hst
    go_enter Try.func35, Try.ntmps35
    go_wp2_with fail
    go_ret
    exact ⟨ret_bool hfin.symm, by rw [Grow.self]; exact H.out, hs, Chg.refl _ _⟩
  case own =>
    have D := aown_does w h hs hm hB hO hBs hBl hq
    rw [hq] at g5
    simp only [APc.val] at g5
    generalize amStep c i mem s = rr at *
    clear h
    go_enter Try.func35, Try.ntmps35
    go_wp2_with fail
    refine D.mono ?_; rintro r w2 ⟨rfl, hd2, hs2, hc2⟩
    obtain ⟨_, _, hA2, _⟩ := hd2.ex
    have k5 := hA2.cell 5
    simp only [List.getElem?_cons_zero, List.getElem?_cons_succ] at k5
    have H : Hid (AmAt w2 a bm bs bl c i rr.2 (Grow O w w2)) := hd2
    clear hd2
    cases hf : rr.2.pc.fin
    · obtain ⟨f, hv⟩ := aval_func a hf
      rw [hv] at k5
      go_wp2_with fail
      go_ret
      exact ⟨ret_bool hf.symm, H.out, hs2, hc2⟩
    · rw [aval_done a hf] at k5
      go_wp2_with fail
      go_ret
      exact ⟨ret_bool hf.symm, H.out, hs2, hc2⟩
  case pool =>
    have D := apool_does w hg h hs hm hq
    rw [hq] at g5
    simp only [APc.val] at g5
    generalize amStep c i mem s = rr at *
    clear h
    go_enter Try.func35, Try.ntmps35
    go_wp2_with fail
    refine D.mono ?_; rintro r w2 ⟨rfl, hd2, hs2, hc2⟩
    obtain ⟨_, _, hA2, _⟩ := hd2.ex
    have k5 := hA2.cell 5
    simp only [List.getElem?_cons_zero, List.getElem?_cons_succ] at k5
    have H : Hid (AmAt w2 a bm bs bl c i rr.2 (Grow O w w2)) := hd2
    clear hd2
    cases hf : rr.2.pc.fin
    · obtain ⟨f, hv⟩ := aval_func a hf
      rw [hv] at k5
      go_wp2_with fail
      go_ret
      exact ⟨ret_bool hf.symm, H.out, hs2, hc2⟩
    · rw [aval_done a hf] at k5
      go_wp2_with fail
      go_ret
      exact ⟨ret_bool hf.symm, H.out, hs2, hc2⟩

theorem aspilled_any {a bm bs bl : Nat} {c : Cfg} {i : Int} {s : AM} {O : Nat → Prop} (w : World) (h : AmAt w a bm bs bl c i s O) :
    Calls Try.prog 13 #[.pointer (some ⟨a, 0, none⟩)] w fun r w' => r = .returned (.bool s.spilled) ∧ w = w' := by
  obtain ⟨pd, pp, hb, _⟩ := h.ex
  have g4 := hb.cell 4
  simp only [List.getElem?_cons_zero, List.getElem?_cons_succ] at g4
  clear h
  cases hsp : s.spilled <;> rw [hsp] at g4
  · go_enter Try.func13, Try.ntmps13
    go_wp2_with fail
    go_ret
    exact ⟨rfl, rfl⟩
  · go_enter Try.func13, Try.ntmps13
    go_wp2_with fail
    go_ret
    exact ⟨rfl, rfl⟩

/-- A machine of a task that is put somewhere. -/
def newAM (c : Cfg) (i x : Int) : AM := ⟨if 0 ≤ i ∧ i < c.mks then .own else .done, x, ⟨.pushBottom, 0, 0, x, 0, false⟩, putOne x, false⟩

theorem ends_ok {c : Cfg} (hg : Good c) (i : Int) : (endsOf c i).ok := by
  have hd := dqs_bound hg
  have h1 : 1 ≤ c.mks ∧ c.mks ≤ 4 := by unfold Good at hg; omega
  have h2 : 2 ≤ c.dq ∧ c.dq ≤ 8 := by unfold Good at hg; omega
  refine ⟨?_, by show 0 ≤ c.dq ∧ c.dq ≤ 100; omega⟩
  show -1 ≤ pEntry c i 0 ∧ pEntry c i 0 ≤ 14000
  unfold pEntry
  split
  · unfold pEnd
    split
    · next h =>
      have := mul_small (x := i) (y := 2 + c.dq) (X := 4) (Y := 10) (by omega) (by omega) (by omega) (by omega)
      omega
    · omega
  · omega

theorem pEnd_pos {c : Cfg} (hg : Good c) {i j : Int} (h : 0 ≤ i ∧ i < c.mks) (hj : 0 ≤ j) : 0 ≤ pEnd c i j := by
  have hd := dqs_bound hg
  have h1 : 1 ≤ c.mks ∧ c.mks ≤ 4 := by unfold Good at hg; omega
  have h2 : 2 ≤ c.dq ∧ c.dq ≤ 8 := by unfold Good at hg; omega
  have := mul_small (x := i) (y := 2 + c.dq) (X := 4) (Y := 10) (by omega) (by omega) (by omega) (by omega)
  unfold pEnd
  rw [if_pos h]
  omega

theorem addNew_any {B bm bs bl : Nat} {c : Cfg} (i x : Int) (w : World) (hm : MapAt w B bm c) (hB : B ≤ w.heap.size) (hg : Good c) (hx : U x) (hbs : bs < w.heap.size) (hbl : bl < w.heap.size) :
    Calls Try.prog 12 #[.pointer (some ⟨bm, 0, none⟩), .int .i64 i, .int .u64 x] w fun r w' => ∃ a, r = .returned (.pointer (some ⟨a, 0, none⟩)) ∧ AmAt w' a bm bs bl c i (newAM c i x) (NewB w w') ∧ Kept w w' := by
  by_cases hi : 0 ≤ i ∧ i < c.mks
  · refine (addNew_some i x w hm hB hg hi hx (ends_ok hg i) (pEnd_pos hg hi (by omega))).mono ?_
    rintro r w' ⟨a, b, q1, q2, rfl, hA, hd, z1, z2, z3, z4, hk⟩
    refine ⟨a, rfl, ?_, hk⟩
    unfold newAM
    rw [if_pos hi]
    have l1 := hd.blk.lt
    have l2 := (hd.box _ rfl).1.lt
    have l3 := (hd.box _ rfl).2.lt
    exact ⟨hx, fun k hk => ⟨hk.2, by have := hk.1; omega, by have := hk.1; omega⟩, ⟨z1, hA.lt⟩, _, _, hA, fun _ => ⟨rfl, rfl, b, q1, q2, rfl, hd, ⟨by omega, l1⟩, ⟨by omega, l2⟩, ⟨by omega, l3⟩, by omega, by omega, by omega⟩, fun e => by cases e⟩
  · have hb := Blk.new w 66 [.pointer (some ⟨bm, 0, none⟩), .int .u64 x, .pointer none, .pointer none, .bool false, .nilFunc]
    have hk : Kept w (w.alloc (.cells ([.pointer (some ⟨bm, 0, none⟩), .int .u64 x, .pointer none, .pointer none, .bool false, .nilFunc] : List Value).toArray 66)) := (Below.refl _ _).alloc (Nat.le_refl _) _
    have HP : Hid (pEnd c i 0 = -1) := if_neg hi
    have HN : Hid (newAM c i x = ⟨.done, x, ⟨.pushBottom, 0, 0, x, 0, false⟩, putOne x, false⟩) := by unfold Hid newAM; rw [if_neg hi]
    clear hi
    go_enter Try.func12, Try.ntmps12
    go_wp2_with fail
    refine (mTop_k i _ (hm.kept hk hB) hg).mono ?_; rintro r w2 ⟨rfl, hk2⟩
    rw [HP.out]
    go_wp2_with fail
    go_ret
    have hb2 := hk2.blk hb
    have z := hb2.lt
    refine ⟨_, rfl, ?_, hk.trans' hk2⟩
    rw [HN.out]
    exact ⟨hx, fun k hk => ⟨hk.2, by have := hk.1; omega, by have := hk.1; omega⟩, ⟨Nat.le_refl _, z⟩, _, _, hb2, fun e => (by cases e), fun e => by cases e⟩

/-- So many steps. -/
def amRun (c : Cfg) (i : Int) : Nat → List Int × AM → List Int × AM
  | 0, x => x
  | k + 1, x => amStep c i (amRun c i k x).1 (amRun c i k x).2

theorem afin_iff {q : APc} : q.fin = true ↔ q = .done := by cases q <;> simp [APc.fin]

theorem amStep_done {c : Cfg} {i : Int} {mem : List Int} {s : AM} (h : s.pc = .done) : amStep c i mem s = (mem, s) := by
  unfold amStep; rw [h]

theorem amRun_add (c : Cfg) (i : Int) (a b : Nat) (x : List Int × AM) : amRun c i (a + b) x = amRun c i b (amRun c i a x) := by
  induction b with
  | zero => rfl
  | succ b ih => rw [← Nat.add_assoc, amRun, amRun, ih]

theorem amRun_stay {c : Cfg} {i : Int} {a : Nat} {x : List Int × AM} (h : (amRun c i a x).2.pc = .done) (b : Nat) : amRun c i (a + b) x = amRun c i a x := by
  induction b with
  | zero => rfl
  | succ b ih => rw [← Nat.add_assoc, amRun, ih, amStep_done h]

theorem amRun_upto {c : Cfg} {i : Int} {a m : Nat} {x y : List Int × AM} (h : amRun c i a x = y) (hd : y.2.pc = .done) (hm : a ≤ m) : amRun c i m x = y := by
  obtain ⟨b, rfl⟩ := Nat.exists_eq_add_of_le hm
  rw [amRun_stay (by rw [h]; exact hd), h]

set_option maxRecDepth 8000 in
/-- A task is put somewhere, to the end (or nineteen steps). -/
theorem whole13_any {a bm bs bl B : Nat} {c : Cfg} {i : Int} {s : AM} {O : Nat → Prop} {mem : List Int} {n : Int} (w : World) (hg : Good c) (h : AmAt w a bm bs bl c i s O) (hs : StoreAt w bs bl mem n) (hm : MapAt w B bm c) (hB : B ≤ w.heap.size) (hO : ∀ k, O k → B ≤ k) (hBs : B ≤ bs) (hBl : B ≤ bl) :
    Calls Try.prog 11 #[.pointer (some ⟨a, 0, none⟩), .pointer (some ⟨bs, 0, none⟩)] w fun r w' => ∃ K : Nat, r = .returned (.int .i64 K) ∧ 1 ≤ K ∧ K ≤ 20 ∧ (∀ k, 1 ≤ k → k < K → (amRun c i k (mem, s)).2.pc.fin = false) ∧ (K < 20 → (amRun c i K (mem, s)).2.pc.fin = true) ∧
      AmAt w' a bm bs bl c i (amRun c i 19 (mem, s)).2 (Grow O w w') ∧ (∃ n', StoreAt w' bs bl (amRun c i 19 (mem, s)).1 n') ∧ Chg (OwnB O bs bl) w w' := by
  go_enter Try.func11, Try.ntmps11
  go_wp2_with fail
  go_loopw [5] (fun iv wr => ∃ (k : Nat) (n' : Int), k ≤ 19 ∧ iv = .int .i64 ((k : Int) + 1) ∧ AmAt wr a bm bs bl c i (amRun c i k (mem, s)).2 (Grow O w wr) ∧ StoreAt wr bs bl (amRun c i k (mem, s)).1 n' ∧ Chg (OwnB O bs bl) w wr ∧ (∀ q, 1 ≤ q → q ≤ k → (amRun c i q (mem, s)).2.pc.fin = false)) (fun iv _ => 20 - (intOf iv).toNat)
  case atStart => exact ⟨0, n, by omega, rfl, by rw [Grow.self]; exact h, hs, Chg.refl _ _, fun q h1 h2 => by omega⟩
  case round =>
    obtain ⟨k, n', hk, rfl, h', hs', hc, hbusy⟩ := hrel
    have z1 := hc.size
    have hm' : MapAt wr B bm c := hm.below (hc.toBelow hB (fun q hq e => by rcases e with e | e | e; have := hO q e; omega; omega; omega)) (Nat.le_refl _)
    have hO' : ∀ q, Grow O w wr q → B ≤ q := by
      rintro q (e | e)
      · exact hO q e
      · omega
    have HU : Hid (∀ q, 1 ≤ q → q ≤ k → (amRun c i q (mem, s)).2.pc.fin = false) := hbusy
    clear hbusy
    by_cases hk19 : k < 19
    · have D := astep_any wr hg h' hs' hm' (by omega) hO' hBs hBl
      rw [show amStep c i (amRun c i k (mem, s)).1 (amRun c i k (mem, s)).2 = amRun c i (k + 1) (mem, s) from rfl] at D
      have HO : Hid (∀ q, Grow O w wr q → B ≤ q) := hO'
      clear hO'
      cases hf : (amRun c i (k + 1) (mem, s)).2.pc.fin
      · rw [hf] at D
        have HF : Hid ((amRun c i (k + 1) (mem, s)).2.pc.fin = false) := hf
        clear hf
        go_wp2_with fail
        refine D.mono ?_; rintro e w2 ⟨rfl, h2, hs2, hc2⟩
        have z2 := hc2.size
        go_wp2_with fail
        go_roundw
        case rel =>
          refine ⟨k + 1, _, by omega, by go_num, by rw [← Grow.eq z1 z2]; exact h2, hs2, hc.grow hc2, fun q h1 h2 => ?_⟩
          by_cases e : q = k + 1
          · rw [e]; exact HF.out
          · exact HU.out q h1 (by omega)
        case measure => simp [intOf]; omega
      · rw [hf] at D
        have HF : Hid ((amRun c i (k + 1) (mem, s)).2.pc.fin = true) := hf
        clear hf
        go_wp2_with fail
        refine D.mono ?_; rintro e w2 ⟨rfl, h2, hs2, hc2⟩
        have z2 := hc2.size
        go_wp2_with fail
        go_ret
        have e19 : amRun c i 19 (mem, s) = amRun c i (k + 1) (mem, s) := amRun_upto rfl (afin_iff.1 HF.out) (by omega)
        refine ⟨k + 1, rfl, by omega, by omega, fun q h1 h2 => HU.out q h1 (by omega), fun _ => HF.out, ?_, ⟨_, by rw [e19]; exact hs2⟩, hc.grow hc2⟩
        rw [e19, ← Grow.eq z1 z2]; exact h2
    · obtain rfl : k = 19 := by omega
      clear hO' hk19
      go_wp2_with fail
      go_ret
      exact ⟨20, rfl, by omega, by omega, fun q h1 h2 => HU.out q h1 (by omega), fun h => by omega, h', ⟨_, hs'⟩, hc⟩

end Go.Proofs.Ytmghijndjdbdfaa

/- A packet's machine that has its own blocks; three of them, and a law's rows: what holds between two steps. -/
import Derived.Test.YtchlbdfapgeebaaOnce5
import Derived.Test.YtchlbdfapgeebaaGrow
import Derived.Test.YtchlbdfapgeebaaPackD
import Derived.Test.YtchlbdfapgeebaaPackW
namespace Go.Proofs.Ytchlbdfapgeebaa
open Go.RowKit

/-- A packet's machine at block b, whose blocks are O's. -/
structure PkO (w : World) (b bm bs bl : Nat) (O : Nat → Prop) (s : PM) : Prop where
  ok : PmOk s
  own : ∀ k, O k → k < w.heap.size ∧ k ≠ bs ∧ k ≠ bl
  inb : O b
  mlt : bm < w.heap.size
  ex : ∃ bi gt, PmAt w b bi gt bm bs bl s ∧ O bi ∧ (O gt ∨ gt = bm)

theorem PkO.chg {w w' : World} {b bm bs bl : Nat} {O S : Nat → Prop} {s : PM} (h : PkO w b bm bs bl O s) (k : Chg S w w') (hS : ∀ q, O q → ¬ S q) (hm : ¬ S bm) : PkO w' b bm bs bl O s := by
  obtain ⟨h1, h2, h3, h4, bi, gt, h5, h6, h7⟩ := h
  refine ⟨h1, fun q hq => ⟨Nat.lt_of_lt_of_le (h2 q hq).1 k.size, (h2 q hq).2⟩, h3, Nat.lt_of_lt_of_le h4 k.size, bi, gt, h5.chg k (hS _ h3) (hS _ h6) ?_, h6, h7⟩
  rcases h7 with h7 | h7
  · exact hS _ h7
  · rw [h7]; exact hm

theorem PkO.step {w : World} {b B bm bs bl : Nat} {O : Nat → Prop} {s : PM} {c : Cfg} {mem : List Int} {n : Int} (h : PkO w b bm bs bl O s) (hg : Good c) (hs : StoreAt w bs bl mem n) (hm : MapAt w B bm c) :
    Calls Try.prog 13 #[.pointer (some ⟨b, 0, none⟩), .pointer (some ⟨bs, 0, none⟩)] w fun e w' => e = .returned (.bool (pmStep c mem s).2.pc.fin) ∧
      PkO w' b bm bs bl (Grow O w w') (pmStep c mem s).2 ∧ (∃ n', StoreAt w' bs bl (pmStep c mem s).1 n') ∧ Chg (OwnB O bs bl) w w' := by
  obtain ⟨h1, h2, h3, h4, bi, gt, h5, h6, h7⟩ := h
  have hgt : gt < w.heap.size := by
    rcases h7 with h7 | h7
    · exact (h2 _ h7).1
    · rw [h7]; exact h4
  have hap := h5.ap
  obtain ⟨ls, ll⟩ := hs.lt
  refine (pstep_all w hg h5 hs hm hgt h1).mono ?_
  rintro e w' ⟨rfl, ⟨bi', hp, hbi⟩, hs', hc⟩
  obtain ⟨b2, hp2, hb2⟩ := hp.home (bi := bi) ⟨hap.1, hap.2.2.2.1, hap.2.2.2.2.1, hap.2.2.2.2.2.2.1⟩
  refine ⟨rfl, ⟨pmStep_ok h1, grow_ok h2 hc.size ls ll, .inl h3, Nat.lt_of_lt_of_le h4 hc.size, b2, gt, hp2, ?_, ?_⟩, ⟨_, hs'⟩, hc.mono (fun q _ e => ?_)⟩
  · rcases hb2 with rfl | ⟨rfl, hlt⟩
    · exact .inl h6
    · rcases hbi with rfl | hbi
      · exact .inl h6
      · exact .inr ⟨hbi, hlt⟩
  · rcases h7 with h7 | h7
    · exact .inl (.inl h7)
    · exact .inr h7
  · rcases e with rfl | rfl | rfl | rfl
    · exact .inl h3
    · exact .inl h6
    · exact .inr (.inl rfl)
    · exact .inr (.inr rfl)

theorem PkO.pack {w : World} {b bm bs bl : Nat} {O : Nat → Prop} {s : PM} (h : PkO w b bm bs bl O s) :
    Calls Try.prog 14 #[.pointer (some ⟨b, 0, none⟩)] w fun e w' => e = .returned (.int .i64 s.packet) ∧ w = w' := by
  obtain ⟨_, _, _, _, bi, gt, h5, _, _⟩ := h
  exact mPacket_any w h5

theorem PmAt.inlt {w : World} {b bi gt bm bs bl : Nat} {s : PM} (h : PmAt w b bi gt bm bs bl s) (hp : s.pc.inner) : bi < w.heap.size := by
  obtain ⟨_, _, _, _, hi⟩ := h.ex
  obtain ⟨_, ⟨_, _, hq⟩, _⟩ := hi hp
  exact hq.lt

section
variable {bm bs bl B : Nat} {c : Cfg} {mem : List Int} {n : Int}

theorem putO (x : Int) (ad : Addr) (cap : Nat) (w : World) (hs : StoreAt w bs bl mem n) (hm : MapAt w B bm c) (hB : B ≤ w.heap.size) (hx : U x) (hc : 1 ≤ cap) (hcell : w.cell? ad = some (.int .u64 x)) :
    Calls Try.prog 11 #[.pointer (some ⟨bm, 0, none⟩), .slice (some ad) 1 cap] w fun e w' => ∃ b, e = .returned (.pointer (some ⟨b, 0, none⟩)) ∧ PkO w' b bm bs bl (NewB w w') (put0 [x]) ∧ Kept w w' := by
  obtain ⟨s1, s2⟩ := hs.lt
  have hb := hm.cells.1
  have ha0 : ad.add 0 = ad := by unfold Addr.add; split <;> simp_all
  refine (packPut_any (ts := [x]) w hs hm (by simpa using hc) (fun i u hu => ?_) (lt_of_cell hcell) (fun y hy => by simp at hy; rw [hy]; exact hx) (by simp) (by simp)).mono ?_
  · match i, hu with
    | 0, hu => simp at hu; subst hu; rw [ha0]; exact hcell
  · rintro e w' ⟨b, bi, gt, rfl, hp, h1, h2, h3, h4, hk⟩
    have z := hk.size
    exact ⟨b, rfl, ⟨⟨fun _ => ⟨rfl, (by simp [put0])⟩, fun e => (by cases e)⟩, fun q hq => ⟨hq.2, by have := hq.1; omega, by have := hq.1; omega⟩, ⟨h1, hp.blt2⟩, by omega, bi, gt, hp, ⟨h2, hp.inlt trivial⟩, .inl ⟨h3, h4⟩⟩, hk⟩

theorem takeO (w : World) (hs : StoreAt w bs bl mem n) (hm : MapAt w B bm c) (_hB : B ≤ w.heap.size) (hBs : B ≤ bs) (hBl : B ≤ bl) :
    Calls Try.prog 12 #[.pointer (some ⟨bm, 0, none⟩)] w fun e w' => ∃ b, e = .returned (.pointer (some ⟨b, 0, none⟩)) ∧ PkO w' b bm bs bl (NewB w w') take0 ∧ Kept w w' := by
  obtain ⟨s1, s2⟩ := hs.lt
  have hb := hm.cells.1
  refine (take_any w hs hm bm (by omega) (by omega) (by omega)).mono ?_
  rintro e w' ⟨b, bi, rfl, hp, h1, h2, hk⟩
  have z := hk.size
  exact ⟨b, rfl, ⟨⟨fun e => (by cases e), fun e => (by cases e)⟩, fun q hq => ⟨hq.2, by have := hq.1; omega, by have := hq.1; omega⟩, ⟨h1, hp.blt2⟩, by omega, bi, bm, hp, ⟨h2, hp.inlt trivial⟩, .inr rfl⟩, hk⟩

theorem backO (p : Int) (w : World) (hg : Good c) (hs : StoreAt w bs bl mem n) (hm : MapAt w B bm c) (hB : B ≤ w.heap.size) (hBs : B ≤ bs) (hBl : B ≤ bl) (hp : 1 ≤ p ∧ p ≤ manyI c) :
    Calls Try.prog 9 #[.pointer (some ⟨bm, 0, none⟩), .int .i64 p] w fun e w' => ∃ b, e = .returned (.pointer (some ⟨b, 0, none⟩)) ∧ PkO w' b bm bs bl (NewB w w') (back0 c p) ∧ Kept w w' := by
  obtain ⟨s1, s2⟩ := hs.lt
  have hb := hm.cells.1
  refine (back_yes p w hg hs hm hB bm (by omega) (by omega) (by omega) hp.1 hp.2).mono ?_
  rintro e w' ⟨b, bi, rfl, hpm, h1, h2, hk⟩
  have z := hk.size
  refine ⟨b, rfl, ?_, hk⟩
  unfold back0; rw [if_pos hp]
  exact ⟨⟨fun e => (by cases e), fun e => (by cases e)⟩, fun q hq => ⟨hq.2, by have := hq.1; omega, by have := hq.1; omega⟩, ⟨h1, hpm.blt2⟩, by omega, bi, bm, hpm, ⟨h2, hpm.inlt trivial⟩, .inr rfl⟩

end

/-- Three values. -/
def list3 (f : Nat → Value) : List Value := [f 0, f 1, f 2]

theorem list3_get (f : Nat → Value) {k : Nat} (hk : k < 3) : (list3 f)[k]? = some (f k) := by
  have : k = 0 ∨ k = 1 ∨ k = 2 := by omega
  rcases this with rfl | rfl | rfl <;> rfl

theorem list3_set (f : Nat → Value) {k : Nat} (v : Value) (hk : k < 3) : (list3 f).set k v = list3 (upd f k v) := by
  have : k = 0 ∨ k = 1 ∨ k = 2 := by omega
  rcases this with rfl | rfl | rfl <;> rfl

theorem list3_congr {f g : Nat → Value} (h : ∀ k, k < 3 → f k = g k) : list3 f = list3 g := by
  unfold list3; rw [h 0 (by omega), h 1 (by omega), h 2 (by omega)]

/-- The address of a machine, or none. -/
def jobV (act : Nat → Act) (bk : Nat → Nat) (k : Nat) : Value := match (act k).job with
  | none => .pointer none
  | some _ => .pointer (some ⟨bk k, 0, none⟩)

def kindV (act : Nat → Act) (k : Nat) : Value := .int .i64 (act k).kind

def hasV (act : Nat → Act) (k : Nat) : Value := .int .i64 (act k).has

theorem upd_upd {α : Type} (f : Nat → α) (k : Nat) (x y : α) : upd (upd f k x) k y = upd f k y := by
  funext i; unfold upd; split <;> rfl

structure WO (w4 : World) (bm bs bl q0 q1 q2 q3 : Nat) (w : World) (mem seen : List Int) (act : Nat → Act) (bk : Nat → Nat) (O : Nat → Nat → Prop) : Prop where
  k : Kept w4 w
  st : ∃ n, StoreAt w bs bl mem n
  bo : w4.heap.size ≤ bs ∧ w4.heap.size ≤ bl ∧ bm < w4.heap.size
  lay : (w4.heap.size ≤ q0 ∧ w4.heap.size ≤ q1 ∧ w4.heap.size ≤ q2 ∧ w4.heap.size ≤ q3) ∧ (q0 ≠ q1 ∧ q0 ≠ q2 ∧ q0 ≠ q3 ∧ q1 ≠ q2 ∧ q1 ≠ q3 ∧ q2 ≠ q3) ∧ (q0 ≠ bs ∧ q1 ≠ bs ∧ q2 ≠ bs ∧ q3 ≠ bs) ∧ (q0 ≠ bl ∧ q1 ≠ bl ∧ q2 ≠ bl ∧ q3 ≠ bl)
  wk : Blk w q0 38 (list3 (jobV act bk))
  kd : Blk w q1 3 (list3 (kindV act))
  hs : Blk w q2 3 (list3 (hasV act))
  sn : Blk w q3 3 (seen.map (Value.int .i64))
  x : ∀ k, k < 3 → ∀ pm, (act k).job = some pm → PkO w (bk k) bm bs bl (O k) pm
  ob : ∀ k, k < 3 → ∀ q, O k q → w4.heap.size ≤ q ∧ q < w.heap.size ∧ (q ≠ bs ∧ q ≠ bl) ∧ (q ≠ q0 ∧ q ≠ q1 ∧ q ≠ q2 ∧ q ≠ q3)
  dj : ∀ k j, k < 3 → j < 3 → j ≠ k → ∀ q, O j q → ¬ O k q

section
variable {w4 : World} {bm bs bl q0 q1 q2 q3 : Nat} {w w' : World} {mem seen : List Int} {act : Nat → Act} {bk : Nat → Nat} {O : Nat → Nat → Prop}

theorem WO.kept (h : WO w4 bm bs bl q0 q1 q2 q3 w mem seen act bk O) (k : Kept w w') : WO w4 bm bs bl q0 q1 q2 q3 w' mem seen act bk O :=
  ⟨h.k.trans' k, h.st.elim fun n hs => ⟨n, hs.kept k⟩, h.bo, h.lay, k.blk h.wk, k.blk h.kd, k.blk h.hs, k.blk h.sn,
    fun j hj pm e => (h.x j hj pm e).chg (Chg.ofBelow (S := fun _ => False) k) (fun _ _ => id) id,
    fun j hj q e => ⟨(h.ob j hj q e).1, Nat.lt_of_lt_of_le (h.ob j hj q e).2.1 k.size, (h.ob j hj q e).2.2⟩, h.dj⟩

/-- One block of the law's rows was changed. -/
theorem WO.row (h : WO w4 bm bs bl q0 q1 q2 q3 w mem seen act bk O) {q : Nat} (hq : q = q0 ∨ q = q1 ∨ q = q2 ∨ q = q3) (k : Chg (fun x => x = q) w w') :
    Kept w4 w' ∧ (∃ n, StoreAt w' bs bl mem n) ∧ (∀ j, j < 3 → ∀ pm, (act j).job = some pm → PkO w' (bk j) bm bs bl (O j) pm) ∧ (∀ j, j < 3 → ∀ x, O j x → w4.heap.size ≤ x ∧ x < w'.heap.size ∧ (x ≠ bs ∧ x ≠ bl) ∧ (x ≠ q0 ∧ x ≠ q1 ∧ x ≠ q2 ∧ x ≠ q3)) := by
  obtain ⟨⟨l1, l2, l3, l4⟩, _, ⟨m1, m2, m3, m4⟩, n1, n2, n3, n4⟩ := h.lay
  have hq4 : w4.heap.size ≤ q := by rcases hq with rfl | rfl | rfl | rfl <;> assumption
  have hqs : q ≠ bs := by rcases hq with rfl | rfl | rfl | rfl <;> assumption
  have hql : q ≠ bl := by rcases hq with rfl | rfl | rfl | rfl <;> assumption
  have hqo : ∀ j, j < 3 → ∀ x, O j x → x ≠ q := fun j hj x hx => by
    obtain ⟨e0, e1, e2, e3⟩ := (h.ob j hj x hx).2.2.2
    rcases hq with rfl | rfl | rfl | rfl <;> assumption
  refine ⟨h.k.trans (k.toBelow h.k.size (fun x hx e => absurd hx (by rw [e]; exact Nat.not_lt.2 hq4))), h.st.elim fun n hs => ⟨n, hs.chg k (fun e => hqs e.symm) (fun e => hql e.symm)⟩, fun j hj pm e => (h.x j hj pm e).chg k (fun x hx e => hqo j hj x hx e) (Nat.ne_of_lt (Nat.lt_of_lt_of_le h.bo.2.2 hq4)), fun j hj x hx => ⟨(h.ob j hj x hx).1, Nat.lt_of_lt_of_le (h.ob j hj x hx).2.1 k.size, (h.ob j hj x hx).2.2⟩⟩

theorem WO.setK (h : WO w4 bm bs bl q0 q1 q2 q3 w mem seen act bk O) {k : Nat} (hk : k < 3) (v : Int) : WO w4 bm bs bl q0 q1 q2 q3 (w.setCell ⟨q1, k, none⟩ (.int .i64 v)) mem seen (upd act k { act k with kind := v }) bk O := by
  have kc : Chg (fun x => x = q1) w (w.setCell ⟨q1, k, none⟩ (.int .i64 v)) := (Chg.refl _ _).setCell _ _ (fun _ => rfl)
  obtain ⟨r1, r2, r3, r4⟩ := h.row (.inr (.inl rfl)) kc
  obtain ⟨_, ⟨l1, l2, l3, l4, l5, l6⟩, _⟩ := h.lay
  refine ⟨r1, r2, h.bo, h.lay, ?_, h.kd.set' k _ ?_, ?_, kc.blk h.sn (fun e => l5 e.symm), fun j hj pm e => r3 j hj pm ?_, r4, h.dj⟩
  · rw [list3_congr (g := jobV act bk) (fun j _ => ?_)]
    · exact kc.blk h.wk l1
    · unfold jobV; by_cases e : j = k
      · subst e; rw [upd_same]
      · rw [upd_other e]
  · rw [list3_set _ _ hk]
    refine list3_congr fun j _ => ?_
    unfold kindV upd; split <;> simp_all
  · rw [list3_congr (g := hasV act) (fun j _ => ?_)]
    · exact kc.blk h.hs (fun e => l4 e.symm)
    · unfold hasV upd; split <;> simp_all
  · unfold upd at e; split at e <;> simp_all

theorem WO.setH (h : WO w4 bm bs bl q0 q1 q2 q3 w mem seen act bk O) {k : Nat} (hk : k < 3) (v : Int) : WO w4 bm bs bl q0 q1 q2 q3 (w.setCell ⟨q2, k, none⟩ (.int .i64 v)) mem seen (upd act k { act k with has := v }) bk O := by
  have kc : Chg (fun x => x = q2) w (w.setCell ⟨q2, k, none⟩ (.int .i64 v)) := (Chg.refl _ _).setCell _ _ (fun _ => rfl)
  obtain ⟨r1, r2, r3, r4⟩ := h.row (.inr (.inr (.inl rfl))) kc
  obtain ⟨_, ⟨l1, l2, l3, l4, l5, l6⟩, _⟩ := h.lay
  refine ⟨r1, r2, h.bo, h.lay, ?_, ?_, h.hs.set' k _ ?_, kc.blk h.sn (fun e => l6 e.symm), fun j hj pm e => r3 j hj pm ?_, r4, h.dj⟩
  · rw [list3_congr (g := jobV act bk) (fun j _ => ?_)]
    · exact kc.blk h.wk l2
    · unfold jobV; by_cases e : j = k
      · subst e; rw [upd_same]
      · rw [upd_other e]
  · rw [list3_congr (g := kindV act) (fun j _ => ?_)]
    · exact kc.blk h.kd l4
    · unfold kindV upd; split <;> simp_all
  · rw [list3_set _ _ hk]
    refine list3_congr fun j _ => ?_
    unfold hasV upd; split <;> simp_all
  · unfold upd at e; split at e <;> simp_all

/-- One is finished. -/
theorem WO.setN (h : WO w4 bm bs bl q0 q1 q2 q3 w mem seen act bk O) {k : Nat} (hk : k < 3) : WO w4 bm bs bl q0 q1 q2 q3 (w.setCell ⟨q0, k, none⟩ (.pointer none)) mem seen (upd act k { act k with job := none }) bk O := by
  have kc : Chg (fun x => x = q0) w (w.setCell ⟨q0, k, none⟩ (.pointer none)) := (Chg.refl _ _).setCell _ _ (fun _ => rfl)
  obtain ⟨r1, r2, r3, r4⟩ := h.row (.inl rfl) kc
  obtain ⟨_, ⟨l1, l2, l3, l4, l5, l6⟩, _⟩ := h.lay
  refine ⟨r1, r2, h.bo, h.lay, h.wk.set' k _ ?_, ?_, ?_, kc.blk h.sn (fun e => l3 e.symm), fun j hj pm e => r3 j hj pm ?_, r4, h.dj⟩
  · rw [list3_set _ _ hk]
    refine list3_congr fun j _ => ?_
    unfold jobV upd; split <;> simp_all
  · rw [list3_congr (g := kindV act) (fun j _ => ?_)]
    · exact kc.blk h.kd l1.symm
    · unfold kindV upd; split <;> simp_all
  · rw [list3_congr (g := hasV act) (fun j _ => ?_)]
    · exact kc.blk h.hs l2.symm
    · unfold hasV upd; split <;> simp_all
  · unfold upd at e; split at e <;> simp_all

/-- One begins. -/
theorem WO.setJ (h : WO w4 bm bs bl q0 q1 q2 q3 w mem seen act bk O) {k : Nat} (hk : k < 3) {b : Nat} {pm : PM} {O' : Nat → Prop} (hx : PkO w b bm bs bl O' pm) (hO : ∀ q, O' q → w4.heap.size ≤ q ∧ q < w.heap.size ∧ (q ≠ bs ∧ q ≠ bl) ∧ (q ≠ q0 ∧ q ≠ q1 ∧ q ≠ q2 ∧ q ≠ q3)) (hd : ∀ j, j < 3 → ∀ q, O' q → ¬ O j q) :
    WO w4 bm bs bl q0 q1 q2 q3 (w.setCell ⟨q0, k, none⟩ (.pointer (some ⟨b, 0, none⟩))) mem seen (upd act k { act k with job := some pm }) (upd bk k b) (upd O k O') := by
  have kc : Chg (fun x => x = q0) w (w.setCell ⟨q0, k, none⟩ (.pointer (some ⟨b, 0, none⟩))) := (Chg.refl _ _).setCell _ _ (fun _ => rfl)
  obtain ⟨r1, r2, r3, r4⟩ := h.row (.inl rfl) kc
  obtain ⟨_, ⟨l1, l2, l3, l4, l5, l6⟩, _⟩ := h.lay
  have hbo := h.bo
  have hlay := h.lay
  refine ⟨r1, r2, h.bo, h.lay, h.wk.set' k _ ?_, ?_, ?_, kc.blk h.sn (fun e => l3 e.symm), fun j hj pm2 e => ?_, fun j hj q e => ?_, fun i j hi hj hn q e e2 => ?_⟩
  · rw [list3_set _ _ hk]
    refine list3_congr fun j _ => ?_
    unfold jobV upd; split <;> simp_all
  · rw [list3_congr (g := kindV act) (fun j _ => ?_)]
    · exact kc.blk h.kd l1.symm
    · unfold kindV upd; split <;> simp_all
  · rw [list3_congr (g := hasV act) (fun j _ => ?_)]
    · exact kc.blk h.hs l2.symm
    · unfold hasV upd; split <;> simp_all
  · by_cases ej : j = k
    · subst ej
      rw [upd_same] at e ⊢
      rw [upd_same]
      cases e
      exact hx.chg kc (fun x hx e => (hO x hx).2.2.2.1 e) (Nat.ne_of_lt (Nat.lt_of_lt_of_le hbo.2.2 hlay.1.1))
    · rw [upd_other ej] at e ⊢
      rw [upd_other ej]
      exact r3 j hj pm2 e
  · by_cases ej : j = k
    · subst ej
      rw [upd_same] at e
      have := hO q e
      exact ⟨this.1, Nat.lt_of_lt_of_le this.2.1 kc.size, this.2.2⟩
    · rw [upd_other ej] at e
      exact r4 j hj q e
  · by_cases ej : j = k
    · subst ej
      rw [upd_same] at e
      rw [upd_other (Ne.symm hn)] at e2
      exact hd i hi q e e2
    · rw [upd_other ej] at e
      by_cases ei : i = k
      · subst ei
        rw [upd_same] at e2
        exact hd j hj q e2 e
      · rw [upd_other ei] at e2
        exact h.dj i j hi hj hn q e e2

theorem WO.setS (h : WO w4 bm bs bl q0 q1 q2 q3 w mem seen act bk O) (t : Nat) (v : Int) : WO w4 bm bs bl q0 q1 q2 q3 (w.setCell ⟨q3, t, none⟩ (.int .i64 v)) mem (seen.set t v) act bk O := by
  have kc : Chg (fun x => x = q3) w (w.setCell ⟨q3, t, none⟩ (.int .i64 v)) := (Chg.refl _ _).setCell _ _ (fun _ => rfl)
  obtain ⟨r1, r2, r3, r4⟩ := h.row (.inr (.inr (.inr rfl))) kc
  obtain ⟨_, ⟨l1, l2, l3, l4, l5, l6⟩, _⟩ := h.lay
  exact ⟨r1, r2, h.bo, h.lay, kc.blk h.wk l3, kc.blk h.kd l5, kc.blk h.hs l6, h.sn.set' t _ (by rw [List.map_set]), r3, r4, h.dj⟩

/-- One makes a step. -/
theorem WO.step (h : WO w4 bm bs bl q0 q1 q2 q3 w mem seen act bk O) {k : Nat} (hk : k < 3) {mem' : List Int} {n' : Int} {pm pm' : PM} (hj : (act k).job = some pm) (hx : PkO w' (bk k) bm bs bl (Grow (O k) w w') pm') (hs : StoreAt w' bs bl mem' n') (hc : Chg (OwnB (O k) bs bl) w w') :
    WO w4 bm bs bl q0 q1 q2 q3 w' mem' seen (upd act k { act k with job := some pm' }) bk (upd O k (Grow (O k) w w')) := by
  have hbo := h.bo
  have hlay := h.lay
  obtain ⟨⟨l1, l2, l3, l4⟩, _, ⟨m1, m2, m3, m4⟩, n1, n2, n3, n4⟩ := h.lay
  have hob := h.ob k hk
  have hw4 := h.k.size
  have hno : ∀ q, q = q0 ∨ q = q1 ∨ q = q2 ∨ q = q3 → ¬ OwnB (O k) bs bl q := fun q hq e => by
    rcases hq with rfl | rfl | rfl | rfl <;> rcases e with e | e | e
    · exact (hob _ e).2.2.2.1 rfl
    · exact m1 e
    · exact n1 e
    · exact (hob _ e).2.2.2.2.1 rfl
    · exact m2 e
    · exact n2 e
    · exact (hob _ e).2.2.2.2.2.1 rfl
    · exact m3 e
    · exact n3 e
    · exact (hob _ e).2.2.2.2.2.2 rfl
    · exact m4 e
    · exact n4 e
  have g0 := h.wk.lt
  have g1 := h.kd.lt
  have g2 := h.hs.lt
  have g3 := h.sn.lt
  obtain ⟨n0, hs0⟩ := h.st
  obtain ⟨s1, s2⟩ := hs0.lt
  refine ⟨h.k.trans (hc.toBelow h.k.size (fun x hx e => ?_)), ⟨n', hs⟩, h.bo, h.lay, ?_, ?_, ?_, hc.blk h.sn (hno _ (.inr (.inr (.inr rfl)))), fun j hj' pm2 e => ?_, fun j hj' q e => ?_, fun i j hi hj' hn q e e2 => ?_⟩
  · rcases e with e | e | e
    · exact absurd hx (Nat.not_lt.2 (hob x e).1)
    · exact absurd hx (by rw [e]; exact Nat.not_lt.2 hbo.1)
    · exact absurd hx (by rw [e]; exact Nat.not_lt.2 hbo.2.1)
  · rw [list3_congr (g := jobV act bk) (fun j _ => ?_)]
    · exact hc.blk h.wk (hno _ (.inl rfl))
    · unfold jobV; by_cases e : j = k
      · subst e; rw [upd_same, hj]
      · rw [upd_other e]
  · rw [list3_congr (g := kindV act) (fun j _ => ?_)]
    · exact hc.blk h.kd (hno _ (.inr (.inl rfl)))
    · unfold kindV upd; split <;> simp_all
  · rw [list3_congr (g := hasV act) (fun j _ => ?_)]
    · exact hc.blk h.hs (hno _ (.inr (.inr (.inl rfl))))
    · unfold hasV upd; split <;> simp_all
  · by_cases ej : j = k
    · subst ej
      rw [upd_same] at e ⊢
      cases e
      exact hx
    · rw [upd_other ej] at e ⊢
      refine (h.x j hj' pm2 e).chg hc (fun x hx e2 => ?_) (fun e2 => ?_)
      · rcases e2 with e2 | e2 | e2
        · exact h.dj k j hk hj' ej x hx e2
        · exact (h.ob j hj' x hx).2.2.1.1 e2
        · exact (h.ob j hj' x hx).2.2.1.2 e2
      · rcases e2 with e2 | e2 | e2
        · exact absurd hbo.2.2 (Nat.not_lt.2 (hob _ e2).1)
        · exact absurd hbo.2.2 (by rw [e2]; exact Nat.not_lt.2 hbo.1)
        · exact absurd hbo.2.2 (by rw [e2]; exact Nat.not_lt.2 hbo.2.1)
  · have z := hc.size
    by_cases ej : j = k
    · subst ej
      rw [upd_same] at e
      rcases e with e | e
      · have := hob q e
        exact ⟨this.1, Nat.lt_of_lt_of_le this.2.1 z, this.2.2⟩
      · exact ⟨Nat.le_trans hw4 e.1, e.2, ⟨Nat.ne_of_gt (Nat.lt_of_lt_of_le s1 e.1), Nat.ne_of_gt (Nat.lt_of_lt_of_le s2 e.1)⟩, Nat.ne_of_gt (Nat.lt_of_lt_of_le g0 e.1), Nat.ne_of_gt (Nat.lt_of_lt_of_le g1 e.1), Nat.ne_of_gt (Nat.lt_of_lt_of_le g2 e.1), Nat.ne_of_gt (Nat.lt_of_lt_of_le g3 e.1)⟩
    · rw [upd_other ej] at e
      have := h.ob j hj' q e
      exact ⟨this.1, Nat.lt_of_lt_of_le this.2.1 z, this.2.2⟩
  · by_cases ej : j = k
    · subst ej
      rw [upd_same] at e
      rw [upd_other (Ne.symm hn)] at e2
      rcases e with e | e
      · exact h.dj i j hi hj' hn q e e2
      · exact absurd (h.ob i hi q e2).2.1 (Nat.not_lt.2 e.1)
    · rw [upd_other ej] at e
      by_cases ei : i = k
      · subst ei
        rw [upd_same] at e2
        rcases e2 with e2 | e2
        · exact h.dj i j hi hj' hn q e e2
        · exact absurd (h.ob j hj' q e).2.1 (Nat.not_lt.2 e2.1)
      · rw [upd_other ei] at e2
        exact h.dj i j hi hj' hn q e e2

/-- Memory was changed. -/
theorem WO.memo (h : WO w4 bm bs bl q0 q1 q2 q3 w mem seen act bk O) {mem' : List Int} {n' : Int} (hs : StoreAt w' bs bl mem' n') (hc : Chg (MemB bs bl) w w') : WO w4 bm bs bl q0 q1 q2 q3 w' mem' seen act bk O := by
  have hbo := h.bo
  obtain ⟨⟨l1, l2, l3, l4⟩, _, ⟨m1, m2, m3, m4⟩, n1, n2, n3, n4⟩ := h.lay
  refine ⟨h.k.trans (hc.toBelow h.k.size (fun x hx e => ?_)), ⟨n', hs⟩, h.bo, h.lay, hc.blk h.wk (fun e => e.elim m1 n1), hc.blk h.kd (fun e => e.elim m2 n2), hc.blk h.hs (fun e => e.elim m3 n3), hc.blk h.sn (fun e => e.elim m4 n4), fun j hj pm e => (h.x j hj pm e).chg hc (fun x hx e2 => e2.elim (h.ob j hj x hx).2.2.1.1 (h.ob j hj x hx).2.2.1.2) (fun e2 => ?_), fun j hj x hx => ⟨(h.ob j hj x hx).1, Nat.lt_of_lt_of_le (h.ob j hj x hx).2.1 hc.size, (h.ob j hj x hx).2.2⟩, h.dj⟩
  · rcases e with e | e
    · exact absurd hx (by rw [e]; exact Nat.not_lt.2 hbo.1)
    · exact absurd hx (by rw [e]; exact Nat.not_lt.2 hbo.2.1)
  · rcases e2 with e2 | e2
    · exact absurd hbo.2.2 (by rw [e2]; exact Nat.not_lt.2 hbo.1)
    · exact absurd hbo.2.2 (by rw [e2]; exact Nat.not_lt.2 hbo.2.1)

theorem WO.cast {act' : Nat → Act} (h : WO w4 bm bs bl q0 q1 q2 q3 w mem seen act bk O) (e : act = act') : WO w4 bm bs bl q0 q1 q2 q3 w mem seen act' bk O := e ▸ h

/-- One begins: its kind is told, its machine is made, and kept. -/
theorem WO.begun (h : WO w4 bm bs bl q0 q1 q2 q3 w mem seen act bk O) {k : Nat} (hk : k < 3) (v : Int) {w1 w2 : World} (k1 : Kept (w.setCell ⟨q1, k, none⟩ (.int .i64 v)) w1) (k2 : Kept w1 w2) {b : Nat} {pm : PM} (hx : PkO w2 b bm bs bl (NewB w1 w2) pm) :
    WO w4 bm bs bl q0 q1 q2 q3 (w2.setCell ⟨q0, k, none⟩ (.pointer (some ⟨b, 0, none⟩))) mem seen (upd act k ⟨some pm, v, (act k).has⟩) (upd bk k b) (upd O k (NewB w1 w2)) := by
  have h1 := (h.setK hk v).kept k1
  have h2 := h1.kept k2
  obtain ⟨_, hs⟩ := h1.st
  obtain ⟨s1, s2⟩ := hs.lt
  have g0 := h1.wk.lt
  have g1 := h1.kd.lt
  have g2 := h1.hs.lt
  have g3 := h1.sn.lt
  have z := h1.k.size
  refine (h2.setJ hk hx (fun q hq => ⟨Nat.le_trans z hq.1, hq.2, ⟨Nat.ne_of_gt (Nat.lt_of_lt_of_le s1 hq.1), Nat.ne_of_gt (Nat.lt_of_lt_of_le s2 hq.1)⟩, Nat.ne_of_gt (Nat.lt_of_lt_of_le g0 hq.1), Nat.ne_of_gt (Nat.lt_of_lt_of_le g1 hq.1), Nat.ne_of_gt (Nat.lt_of_lt_of_le g2 hq.1), Nat.ne_of_gt (Nat.lt_of_lt_of_le g3 hq.1)⟩) (fun j hj q hq e => absurd (h1.ob j hj q e).2.1 (Nat.not_lt.2 hq.1))).cast ?_
  rw [upd_upd, upd_same]

/-- The cells of one of the three. -/
theorem WO.cellW (h : WO w4 bm bs bl q0 q1 q2 q3 w mem seen act bk O) {k : Nat} (hk : k < 3) : w.cell? ⟨q0, k, none⟩ = some (jobV act bk k) := by
  rw [h.wk.cell k, list3_get _ hk]
theorem WO.cellK (h : WO w4 bm bs bl q0 q1 q2 q3 w mem seen act bk O) {k : Nat} (hk : k < 3) : w.cell? ⟨q1, k, none⟩ = some (.int .i64 (act k).kind) := by
  rw [h.kd.cell k, list3_get _ hk]; rfl
theorem WO.cellH (h : WO w4 bm bs bl q0 q1 q2 q3 w mem seen act bk O) {k : Nat} (hk : k < 3) : w.cell? ⟨q2, k, none⟩ = some (.int .i64 (act k).has) := by
  rw [h.hs.cell k, list3_get _ hk]; rfl
theorem WO.cellS (h : WO w4 bm bs bl q0 q1 q2 q3 w mem seen act bk O) {t : Nat} (ht : t < seen.length) : w.cell? ⟨q3, t, none⟩ = some (.int .i64 (seen[t]?.getD 0)) := by
  rw [h.sn.cell t, List.getElem?_map, List.getElem?_eq_getElem ht]; rfl

/-- One is finished: what it has is told, or not. -/
theorem WO.done (h : WO w4 bm bs bl q0 q1 q2 q3 w mem seen act bk O) {k : Nat} (hk : k < 3) {a : Act} {act0 : Nat → Act} (e : act = upd act0 k a) : WO w4 bm bs bl q0 q1 q2 q3 (w.setCell ⟨q0, k, none⟩ (.pointer none)) mem seen (upd act0 k ⟨none, a.kind, a.has⟩) bk O := by
  subst e
  refine (h.setN hk).cast ?_
  rw [upd_upd, upd_same]

theorem WO.told (h : WO w4 bm bs bl q0 q1 q2 q3 w mem seen act bk O) {k : Nat} (hk : k < 3) (v : Int) {a : Act} {act0 : Nat → Act} (e : act = upd act0 k a) : WO w4 bm bs bl q0 q1 q2 q3 (w.setCell ⟨q2, k, none⟩ (.int .i64 v)) mem seen (upd act0 k { a with has := v }) bk O := by
  subst e
  refine (h.setH hk v).cast ?_
  rw [upd_upd, upd_same]

theorem jobV_some {b : Nat → Nat} {k : Nat} {pm : PM} (hj : (act k).job = some pm) : jobV act b k = .pointer (some ⟨b k, 0, none⟩) := by
  unfold jobV; rw [hj]

end

end Go.Proofs.Ytchlbdfapgeebaa

/- The document's add: its machine's steps: walked. -/
import Derived.Test.YtfbcadknimfhjaaGreatPkRef8b
import Derived.Test.YtfbcadknimfhjaaGreatPkQ
import Derived.Test.YtfbcadknimfhjaaGreatPkRef11p
import Derived.Test.YtfbcadknimfhjaaGreatPkH
import Derived.Test.YtfbcadknimfhjaaGreatPkU
import Derived.Deep.CutRange
namespace Go.Proofs.YtfbcadknimfhjaaGreat
open Go.RowKit

def pcA : APc → Int
  | .done => 0
  | .own => 1
  | .pool => 2

abbrev r13L (pc task k0 k1 k2 k3 k4 k5 k6 k7 k8 k10 : Int) (k9 : Bool) (p0 p1 p3 p4 p5 p6 p7 p9 p10 p11 p12 : Int) (tv xv : Value) (sp : Bool) : List Value := [.int .i64 (pc), .int .u64 (task), .int .i64 (k0), .int .i64 (k1), .int .i64 (k2), .int .i64 (k3), .int .i64 (k4), .int .i64 (k5), .int .u64 (k6), .int .u64 (k7), .int .u64 (k8), .bool (k9), .int .i64 (k10), .int .i64 (p0), .int .i64 (p1), tv, .int .i64 (p3), .int .i64 (p4), .int .i64 (p5), .int .i64 (p6), .int .i64 (p7), xv, .int .u32 (p9), .int .u64 (p10), .int .u32 (p11), .int .i64 (p12), .bool (sp)]

/-- The document's machine, as a value. -/
structure R13 (w : World) (v : Value) (c : Cfg) (i : Int) (tv xv : Value) (s : AM) : Prop where
  ex : ∃ tk k0 k1 k2 k3 k4 k5 k6 k7 k8 k10 k9 p0 p1 p3 p4 p5 p6 p7 p9 p10 p11 p12, v = .agg (r13L (pcA s.pc) tk k0 k1 k2 k3 k4 k5 k6 k7 k8 k10 k9 p0 p1 p3 p4 p5 p6 p7 p9 p10 p11 p12 tv xv s.spilled).toArray ∧
    (s.pc = .own → tk = s.task ∧ [.int .i64 (k0), .int .i64 (k1), .int .i64 (k2), .int .i64 (k3), .int .i64 (k4), .int .i64 (k5), .int .u64 (k6), .int .u64 (k7), .int .u64 (k8), .bool (k9), .int .i64 (k10)] = r8V (endsOf c i) s.dq) ∧
    (s.pc = .pool → R11 w (.agg ([.int .i64 (p0), .int .i64 (p1), tv, .int .i64 (p3), .int .i64 (p4), .int .i64 (p5), .int .i64 (p6), .int .i64 (p7), xv, .int .u32 (p9), .int .u64 (p10), .int .u32 (p11), .int .i64 (p12)] : List Value).toArray) (linksL c) tv xv s.put)
  tvs : ∃ ao n cap, tv = .slice ao n cap
  xvs : ∃ ao n cap, xv = .slice ao n cap
  dq : s.pc = .own → s.dq.push ∧ s.dq.pc ≠ .done ∧ (U s.dq.b ∧ U s.dq.t ∧ U s.dq.wd)

/-- What its slices have. -/
def YS (c : Cfg) (tv xv : Value) (s : AM) : Nat → Prop := fun q => s.pc = .pool ∧ ((0 < s.put.tasks.length ∧ tv.ownBlock = some q) ∨ ((s.put.pc = .spare ∨ s.put.pc = .last) ∧ 0 < (linksL c).length ∧ xv.ownBlock = some q))

theorem R11.tlt {w : World} {Ls : List Int} {v tv xvl : Value} {s : PM} (h : R11 w v Ls tv xvl s) (hp : 0 < s.tasks.length) {g : Nat} (hg : tv.ownBlock = some g) : g < w.heap.size := by
  obtain ⟨_, _, _, _, _, _, _, _, _, _, _, ht, _⟩ := h
  rcases ht with ⟨_, e⟩ | ⟨ad, cap, rfl, _, _, hcell⟩
  · have := congrArg List.length e; simp at this; simp [this] at hp
  · have hb : (ad.add 0).block = ad.block := by unfold Addr.add; split <;> rfl
    have hc := hcell 0 (.int .u64 (s.tasks[0]'hp)) (by rw [List.getElem?_map, List.getElem?_eq_getElem hp]; rfl)
    have := World.block_lt_of_cell? w _ hc
    simp only [Value.ownBlock, Option.some.injEq] at hg
    rw [← hg, ← hb]; exact this

theorem R13.ylt {w : World} {c : Cfg} {i : Int} {v tv xv : Value} {s : AM} (h : R13 w v c i tv xv s) {q : Nat} (hq : YS c tv xv s q) : q < w.heap.size := by
  obtain ⟨⟨_, _, _, _, _, _, _, _, _, _, _, _, _, _, _, _, _, _, _, _, _, _, _, _, _, h3⟩, _, _, _⟩ := h
  obtain ⟨hp, ⟨a, b⟩ | ⟨a, b, e⟩⟩ := hq
  · exact (h3 hp).tlt a b
  · exact (h3 hp).xlt a b e

theorem R13.chg {w w' : World} {c : Cfg} {i : Int} {v tv xv : Value} {s : AM} {S : Nat → Prop} (h : R13 w v c i tv xv s) (k : Chg S w w') (hS : ∀ q, YS c tv xv s q → ¬ S q) : R13 w' v c i tv xv s := by
  obtain ⟨⟨tk, k0, k1, k2, k3, k4, k5, k6, k7, k8, k10, k9, p0, p1, p3, p4, p5, p6, p7, p9, p10, p11, p12, h1, h2, h3⟩, h4, h5, h6⟩ := h
  exact ⟨⟨tk, k0, k1, k2, k3, k4, k5, k6, k7, k8, k10, k9, p0, p1, p3, p4, p5, p6, p7, p9, p10, p11, p12, h1, h2, fun e => (h3 e).chg k (fun a g b => hS g ⟨e, .inl ⟨a, b⟩⟩) (fun a b g e' => hS g ⟨e, .inr ⟨a, b, e'⟩⟩)⟩, h4, h5, h6⟩

theorem R13.kept {w w' : World} {c : Cfg} {i : Int} {v tv xv : Value} {s : AM} (h : R13 w v c i tv xv s) (k : Kept w w') : R13 w' v c i tv xv s :=
  h.chg (Chg.ofBelow (S := fun _ => False) k) (fun _ _ => id)

theorem dqStep_push {e : DEnds} {mem : List Int} {d : DQ} (h : d.push) : (dqStep e mem d).2.push := by
  obtain ⟨pc, b, t, wd, out, won⟩ := d
  unfold DQ.push at *
  simp only at h
  rcases h with rfl | rfl | rfl | rfl | rfl <;> simp only [dqStep]
  · simp
  · simp
  · split <;> simp
  · simp
  · simp

theorem dqStep_U {e : DEnds} {mem : List Int} {d : DQ} (h : d.push) (hall : ∀ x ∈ mem, U x) (hu : U d.b ∧ U d.t ∧ U d.wd) : U (dqStep e mem d).2.b ∧ U (dqStep e mem d).2.t ∧ U (dqStep e mem d).2.wd := by
  obtain ⟨pc, b, t, wd, out, won⟩ := d
  obtain ⟨h1, h2, h3⟩ := hu
  unfold DQ.push at h
  simp only at h h1 h2 h3
  have u0 : U 0 := by unfold U; omega
  rcases h with rfl | rfl | rfl | rfl | rfl <;> simp only [dqStep]
  · exact ⟨h1, h2, h3⟩
  · exact ⟨mget_all hall _, h2, h3⟩
  · split
    · exact ⟨h1, mget_all hall _, u0⟩
    · exact ⟨h1, mget_all hall _, h3⟩
  · exact ⟨h1, h2, h3⟩
  · exact ⟨h1, h2, u0⟩

theorem r8V_run {e : DEnds} {d : DQ} (h : d.push) (hd : d.pc.fin = false) : ∃ pn : Int, (pn == 0) = false ∧ r8V e d = r8L 1 pn e.tp e.bt e.en e.rm d.b d.t d.wd false 0 := by
  unfold DQ.push at h
  rcases h with hp | hp | hp | hp | hp
  · rw [hp] at hd; cases hd
  all_goals (unfold r8V; rw [hp]; exact ⟨_, rfl, rfl⟩)

theorem r8V_fin {e : DEnds} {d : DQ} (hd : d.pc.fin = true) : r8V e d = r8L 1 0 0 0 0 0 0 0 0 false d.out := by
  unfold r8V; rw [dfin_iff.1 hd]

/-- What a step of the document's machine does. -/
def Did13 (c : Cfg) (i : Int) (mem : List Int) (s : AM) (l tv xv : Value) (w w' : World) (e : Ending) : Prop :=
  ∃ l' v' tv' xv', e = .returned (.tuple #[l', v']) ∧ MemV w' l' (amStep c i mem s).1 ∧ R13 w' v' c i tv' xv' (amStep c i mem s).2 ∧ Kept w w' ∧ (∀ g, l'.ownBlock = some g → l' = l ∨ w.heap.size ≤ g) ∧ ∀ q, YS c tv' xv' (amStep c i mem s).2 q → YS c tv xv s q ∨ w.heap.size ≤ q

theorem pcN11_run {q : PPc} (h : q.fin = false) : (pcN11 q == 0) = false := by cases q <;> first | rfl | cases h
theorem pcN11_fin {q : PPc} (h : q.fin = true) : pcN11 q = 0 := by cases q <;> first | rfl | cases h

set_option maxRecDepth 8000 in
set_option maxHeartbeats 1600000 in
theorem st13_done {c : Cfg} {i : Int} {mem : List Int} {s : AM} {a l v tv xv : Value} (w : World) (_hg : Good c) (ha : MapV w c a) (h : R13 w v c i tv xv s) (hm : MemV w l mem) (hall : ∀ x ∈ mem, U x) (_hlen : mem.length ≤ 20000) (hok : s.pc = .pool → PmOk s.put ∧ s.put.pc.fin = false) (hp : s.pc = .done) :
    Calls Tryz.prog 17 #[a, l, v] w fun e w' => Did13 c i mem s l tv xv w w' e := by
  obtain ⟨pc, task, dq, put, sp⟩ := s
  simp only at hp hok
  subst hp
  have HR0 : Hid (R13 w v c i tv xv ⟨.done, task, dq, put, sp⟩) := h
  obtain ⟨⟨tk, k0, k1, k2, k3, k4, k5, k6, k7, k8, k10, k9, p0, p1, p3, p4, p5, p6, p7, p9, p10, p11, p12, rfl, hown, hpool⟩, ⟨tz, tn, tc, rfl⟩, ⟨xo, xn, xc, rfl⟩, hdq⟩ := h
  simp only [pcA] at hown hpool hdq ⊢
  obtain ⟨va, rfl, hT⟩ := ha
  obtain ⟨ao, acap, rfl, _⟩ := hT.ex
  have HV : Hid (∀ W, Kept w W → MapV W c (.agg #[.slice ao (allT c).length acap, .int .i64 (manyI c)])) := fun W k => ⟨_, rfl, hT.kept k⟩
  clear hT
  generalize (allT c).length = ln at *
  obtain ⟨mo, mc, hmv⟩ := hm.form
  obtain ⟨ml, hml⟩ : ∃ ml, ml = (mem.map (Value.int .u64)).length := ⟨_, rfl⟩
  rw [← hml] at hmv
  subst hmv
  clear hml
  have HM : Hid (∀ W, Kept w W → MemV W (.slice mo ml mc) mem) := fun W k => hm.kept k
  have HA : Hid (∀ x ∈ mem, U x) := hall
  have HST : Hid (amStep c i mem ⟨.done, task, dq, put, sp⟩ = (mem, ⟨.done, task, dq, put, sp⟩)) := rfl
  clear hown hpool hdq hm hall hok
  have hA0 := Blk.new w 35 [.slice ao ln acap, .int .i64 (manyI c)]
  have hk0 : Kept w (w.alloc (.cells ([.slice ao ln acap, .int .i64 (manyI c)] : List Value).toArray 35)) := (Below.refl _ _).alloc (Nat.le_refl _) _
  have z0 : (w.alloc (.cells ([.slice ao ln acap, .int .i64 (manyI c)] : List Value).toArray 35)).heap.size = w.heap.size + 1 := by simp
  go_enter Tryz.func17, Tryz.ntmps17
  go_wp2_with fail
  generalize w.alloc (.cells ([.slice ao ln acap, .int .i64 (manyI c)] : List Value).toArray 35) = w1 at *
  have hb0 := Blk.new w1 59 [.int .i64 (0), .int .u64 (tk), .int .i64 (k0), .int .i64 (k1), .int .i64 (k2), .int .i64 (k3), .int .i64 (k4), .int .i64 (k5), .int .u64 (k6), .int .u64 (k7), .int .u64 (k8), .bool (k9), .int .i64 (k10), .int .i64 (p0), .int .i64 (p1), .slice tz tn tc, .int .i64 (p3), .int .i64 (p4), .int .i64 (p5), .int .i64 (p6), .int .i64 (p7), .slice xo xn xc, .int .u32 (p9), .int .u64 (p10), .int .u32 (p11), .int .i64 (p12), .bool (sp)]
  rw [z0] at hb0
  have hk1 : Kept w1 (w1.alloc (.cells ([.int .i64 (0), .int .u64 (tk), .int .i64 (k0), .int .i64 (k1), .int .i64 (k2), .int .i64 (k3), .int .i64 (k4), .int .i64 (k5), .int .u64 (k6), .int .u64 (k7), .int .u64 (k8), .bool (k9), .int .i64 (k10), .int .i64 (p0), .int .i64 (p1), .slice tz tn tc, .int .i64 (p3), .int .i64 (p4), .int .i64 (p5), .int .i64 (p6), .int .i64 (p7), .slice xo xn xc, .int .u32 (p9), .int .u64 (p10), .int .u32 (p11), .int .i64 (p12), .bool (sp)] : List Value).toArray 59)) := (Below.refl _ _).alloc (Nat.le_refl _) _
  have z1 : (w1.alloc (.cells ([.int .i64 (0), .int .u64 (tk), .int .i64 (k0), .int .i64 (k1), .int .i64 (k2), .int .i64 (k3), .int .i64 (k4), .int .i64 (k5), .int .u64 (k6), .int .u64 (k7), .int .u64 (k8), .bool (k9), .int .i64 (k10), .int .i64 (p0), .int .i64 (p1), .slice tz tn tc, .int .i64 (p3), .int .i64 (p4), .int .i64 (p5), .int .i64 (p6), .int .i64 (p7), .slice xo xn xc, .int .u32 (p9), .int .u64 (p10), .int .u32 (p11), .int .i64 (p12), .bool (sp)] : List Value).toArray 59)).heap.size = w.heap.size + 2 := by simp [z0]
  generalize w1.alloc (.cells ([.int .i64 (0), .int .u64 (tk), .int .i64 (k0), .int .i64 (k1), .int .i64 (k2), .int .i64 (k3), .int .i64 (k4), .int .i64 (k5), .int .u64 (k6), .int .u64 (k7), .int .u64 (k8), .bool (k9), .int .i64 (k10), .int .i64 (p0), .int .i64 (p1), .slice tz tn tc, .int .i64 (p3), .int .i64 (p4), .int .i64 (p5), .int .i64 (p6), .int .i64 (p7), .slice xo xn xc, .int .u32 (p9), .int .u64 (p10), .int .u32 (p11), .int .i64 (p12), .bool (sp)] : List Value).toArray 59) = w2 at *
  have hr0 := Blk.new w2 59 [.int .i64 0, .int .u64 0, .int .i64 0, .int .i64 0, .int .i64 0, .int .i64 0, .int .i64 0, .int .i64 0, .int .u64 0, .int .u64 0, .int .u64 0, .bool false, .int .i64 0, .int .i64 0, .int .i64 0, .slice none 0 0, .int .i64 0, .int .i64 0, .int .i64 0, .int .i64 0, .int .i64 0, .slice none 0 0, .int .u32 0, .int .u64 0, .int .u32 0, .int .i64 0, .bool false]
  rw [z1] at hr0
  have hk2 : Kept w2 (w2.alloc (.cells ([.int .i64 0, .int .u64 0, .int .i64 0, .int .i64 0, .int .i64 0, .int .i64 0, .int .i64 0, .int .i64 0, .int .u64 0, .int .u64 0, .int .u64 0, .bool false, .int .i64 0, .int .i64 0, .int .i64 0, .slice none 0 0, .int .i64 0, .int .i64 0, .int .i64 0, .int .i64 0, .int .i64 0, .slice none 0 0, .int .u32 0, .int .u64 0, .int .u32 0, .int .i64 0, .bool false] : List Value).toArray 59)) := (Below.refl _ _).alloc (Nat.le_refl _) _
  have z2 : (w2.alloc (.cells ([.int .i64 0, .int .u64 0, .int .i64 0, .int .i64 0, .int .i64 0, .int .i64 0, .int .i64 0, .int .i64 0, .int .u64 0, .int .u64 0, .int .u64 0, .bool false, .int .i64 0, .int .i64 0, .int .i64 0, .slice none 0 0, .int .i64 0, .int .i64 0, .int .i64 0, .int .i64 0, .int .i64 0, .slice none 0 0, .int .u32 0, .int .u64 0, .int .u32 0, .int .i64 0, .bool false] : List Value).toArray 59)).heap.size = w.heap.size + 3 := by simp [z1]
  generalize w2.alloc (.cells ([.int .i64 0, .int .u64 0, .int .i64 0, .int .i64 0, .int .i64 0, .int .i64 0, .int .i64 0, .int .i64 0, .int .u64 0, .int .u64 0, .int .u64 0, .bool false, .int .i64 0, .int .i64 0, .int .i64 0, .slice none 0 0, .int .i64 0, .int .i64 0, .int .i64 0, .int .i64 0, .int .i64 0, .slice none 0 0, .int .u32 0, .int .u64 0, .int .u32 0, .int .i64 0, .bool false] : List Value).toArray 59) = w3 at *
  have hA := (hk2.blk (hk1.blk hA0))
  have hb := (hk2.blk hb0)
  have hr := hr0
  have hk : Kept w w3 := ((hk0.trans' hk1).trans' hk2)
  clear hA0 hb0 hr0 hk0 hk1 hk2 z0 z1
  have zN : w3.heap.size = w.heap.size + 3 := z2
  clear z2
  have b0 := hb.cell 0
  have b1 := hb.cell 1
  simp only [List.getElem?_cons_zero, List.getElem?_cons_succ] at b0 b1
  go_wp2_with fail
  clear b0 b1
  have hbD : Blk w3.drew (w.heap.size + 1) 59 [.int .i64 (0), .int .u64 (tk), .int .i64 (k0), .int .i64 (k1), .int .i64 (k2), .int .i64 (k3), .int .i64 (k4), .int .i64 (k5), .int .u64 (k6), .int .u64 (k7), .int .u64 (k8), .bool (k9), .int .i64 (k10), .int .i64 (p0), .int .i64 (p1), .slice tz tn tc, .int .i64 (p3), .int .i64 (p4), .int .i64 (p5), .int .i64 (p6), .int .i64 (p7), .slice xo xn xc, .int .u32 (p9), .int .u64 (p10), .int .u32 (p11), .int .i64 (p12), .bool (sp)] := hb
  have hrD : Blk w3.drew (w.heap.size + 2) 59 _ := hr
  refine wp_region_z 3 (fun w' => Blk w' (w.heap.size + 1) 59 [.int .i64 (0), .int .u64 (tk), .int .i64 (k0), .int .i64 (k1), .int .i64 (k2), .int .i64 (k3), .int .i64 (k4), .int .i64 (k5), .int .u64 (k6), .int .u64 (k7), .int .u64 (k8), .bool (k9), .int .i64 (k10), .int .i64 (p0), .int .i64 (p1), .slice tz tn tc, .int .i64 (p3), .int .i64 (p4), .int .i64 (p5), .int .i64 (p6), .int .i64 (p7), .slice xo xn xc, .int .u32 (p9), .int .u64 (p10), .int .u32 (p11), .int .i64 (p12), .bool (sp)]) (by kernel_rfl) ?_
  refine wpAnyZ_take (i := 0) (v := ?v0z1) rfl (by kernel_rfl) (by kernel_rfl) (by kernel_rfl) (by kernel_rfl) (fun _ _ _ h => h) (Or.inl ⟨by rfl, ?hy0z1⟩) hbD ?_
  case hy0z1 => intro w hSw; (try dsimp only at hSw); first | (go_simp; done) | (go_simp; with_reducible rfl)
  try simp only [Act.put, List.getElem_toArray, List.getElem_cons_zero, List.setIfInBounds_toArray, List.set_cons_zero, List.set_cons_succ]
  refine wpAnyZ_take (i := 1) (v := .agg ([.int .i64 (0), .int .u64 (tk), .int .i64 (k0), .int .i64 (k1), .int .i64 (k2), .int .i64 (k3), .int .i64 (k4), .int .i64 (k5), .int .u64 (k6), .int .u64 (k7), .int .u64 (k8), .bool (k9), .int .i64 (k10), .int .i64 (p0), .int .i64 (p1), .slice tz tn tc, .int .i64 (p3), .int .i64 (p4), .int .i64 (p5), .int .i64 (p6), .int .i64 (p7), .slice xo xn xc, .int .u32 (p9), .int .u64 (p10), .int .u32 (p11), .int .i64 (p12), .bool (sp)] : List Value).toArray) rfl (by kernel_rfl) (by kernel_rfl) (by kernel_rfl) (by kernel_rfl) (fun _ _ _ h => h) (yieldsIf_load_mid rfl 59 _ rfl (w.heap.size + 1) 0 rfl [.int .i64 (0), .int .u64 (tk), .int .i64 (k0), .int .i64 (k1), .int .i64 (k2), .int .i64 (k3), .int .i64 (k4), .int .i64 (k5), .int .u64 (k6), .int .u64 (k7), .int .u64 (k8), .bool (k9), .int .i64 (k10), .int .i64 (p0), .int .i64 (p1), .slice tz tn tc, .int .i64 (p3), .int .i64 (p4), .int .i64 (p5), .int .i64 (p6), .int .i64 (p7), .slice xo xn xc, .int .u32 (p9), .int .u64 (p10), .int .u32 (p11), .int .i64 (p12), .bool (sp)] _ (fun w h => Blk.range h 0 _ rfl) Tryz.underlying59 rfl (by kernel_rfl)) hbD ?_
  try simp only [Act.put, List.getElem_toArray, List.getElem_cons_zero, List.getElem_cons_succ, List.setIfInBounds_toArray, List.set_cons_zero, List.set_cons_succ]
  refine wpAnyZ_take (i := 2) (v := ?v2z2) rfl (by kernel_rfl) (by kernel_rfl) (by kernel_rfl) (by kernel_rfl) (fun _ _ _ h => h) (Or.inl ⟨by rfl, ?hy2z2⟩) hbD ?_
  case hy2z2 => intro w hSw; (try dsimp only at hSw); first | (go_simp; done) | (go_simp; with_reducible rfl)
  try simp only [Act.put, List.getElem_toArray, List.getElem_cons_zero, List.getElem_cons_succ, List.setIfInBounds_toArray, List.set_cons_zero, List.set_cons_succ]
  refine wpAnyZ_one (i := 3) (by kernel_rfl) rfl (fun K hK => ?_)
  rw [if_pos (by kernel_rfl)]
  refine wp_store_row 59 _ _ rfl hrD 0 rfl [.int .i64 (0), .int .u64 (tk), .int .i64 (k0), .int .i64 (k1), .int .i64 (k2), .int .i64 (k3), .int .i64 (k4), .int .i64 (k5), .int .u64 (k6), .int .u64 (k7), .int .u64 (k8), .bool (k9), .int .i64 (k10), .int .i64 (p0), .int .i64 (p1), .slice tz tn tc, .int .i64 (p3), .int .i64 (p4), .int .i64 (p5), .int .i64 (p6), .int .i64 (p7), .slice xo xn xc, .int .u32 (p9), .int .u64 (p10), .int .u32 (p11), .int .i64 (p12), .bool (sp)] [.int .i64 (0), .int .u64 (tk), .int .i64 (k0), .int .i64 (k1), .int .i64 (k2), .int .i64 (k3), .int .i64 (k4), .int .i64 (k5), .int .u64 (k6), .int .u64 (k7), .int .u64 (k8), .bool (k9), .int .i64 (k10), .int .i64 (p0), .int .i64 (p1), .slice tz tn tc, .int .i64 (p3), .int .i64 (p4), .int .i64 (p5), .int .i64 (p6), .int .i64 (p7), .slice xo xn xc, .int .u32 (p9), .int .u64 (p10), .int .u32 (p11), .int .i64 (p12), .bool (sp)] rfl rfl (by simp) rfl (by kernel_rfl) ?_
  refine hK.out _ _ (fun h => absurd rfl h) ?_
  refine wpAnyZ_done (by kernel_rfl) ?_ _
  clear hK K
  have hr9 : Blk (w3.drew.setRow (w.heap.size + 2) ([.int .i64 (0), .int .u64 (tk), .int .i64 (k0), .int .i64 (k1), .int .i64 (k2), .int .i64 (k3), .int .i64 (k4), .int .i64 (k5), .int .u64 (k6), .int .u64 (k7), .int .u64 (k8), .bool (k9), .int .i64 (k10), .int .i64 (p0), .int .i64 (p1), .slice tz tn tc, .int .i64 (p3), .int .i64 (p4), .int .i64 (p5), .int .i64 (p6), .int .i64 (p7), .slice xo xn xc, .int .u32 (p9), .int .u64 (p10), .int .u32 (p11), .int .i64 (p12), .bool (sp)] : List Value).toArray) (w.heap.size + 2) 59 [.int .i64 (0), .int .u64 (tk), .int .i64 (k0), .int .i64 (k1), .int .i64 (k2), .int .i64 (k3), .int .i64 (k4), .int .i64 (k5), .int .u64 (k6), .int .u64 (k7), .int .u64 (k8), .bool (k9), .int .i64 (k10), .int .i64 (p0), .int .i64 (p1), .slice tz tn tc, .int .i64 (p3), .int .i64 (p4), .int .i64 (p5), .int .i64 (p6), .int .i64 (p7), .slice xo xn xc, .int .u32 (p9), .int .u64 (p10), .int .u32 (p11), .int .i64 (p12), .bool (sp)] := Blk.setRow hrD _
  have hk9 : Kept w (w3.drew.setRow (w.heap.size + 2) ([.int .i64 (0), .int .u64 (tk), .int .i64 (k0), .int .i64 (k1), .int .i64 (k2), .int .i64 (k3), .int .i64 (k4), .int .i64 (k5), .int .u64 (k6), .int .u64 (k7), .int .u64 (k8), .bool (k9), .int .i64 (k10), .int .i64 (p0), .int .i64 (p1), .slice tz tn tc, .int .i64 (p3), .int .i64 (p4), .int .i64 (p5), .int .i64 (p6), .int .i64 (p7), .slice xo xn xc, .int .u32 (p9), .int .u64 (p10), .int .u32 (p11), .int .i64 (p12), .bool (sp)] : List Value).toArray) := Below.setRow (Below.drew hk) _ (by omega)
  have hc9 : Chg (fun q => q = w.heap.size + 2) w3 (w3.drew.setRow (w.heap.size + 2) ([.int .i64 (0), .int .u64 (tk), .int .i64 (k0), .int .i64 (k1), .int .i64 (k2), .int .i64 (k3), .int .i64 (k4), .int .i64 (k5), .int .u64 (k6), .int .u64 (k7), .int .u64 (k8), .bool (k9), .int .i64 (k10), .int .i64 (p0), .int .i64 (p1), .slice tz tn tc, .int .i64 (p3), .int .i64 (p4), .int .i64 (p5), .int .i64 (p6), .int .i64 (p7), .slice xo xn xc, .int .u32 (p9), .int .u64 (p10), .int .u32 (p11), .int .i64 (p12), .bool (sp)] : List Value).toArray) := Chg.setRow (Chg.refl _ _).drew _ _ (fun _ => rfl)
  generalize (w3.drew.setRow (w.heap.size + 2) ([.int .i64 (0), .int .u64 (tk), .int .i64 (k0), .int .i64 (k1), .int .i64 (k2), .int .i64 (k3), .int .i64 (k4), .int .i64 (k5), .int .u64 (k6), .int .u64 (k7), .int .u64 (k8), .bool (k9), .int .i64 (k10), .int .i64 (p0), .int .i64 (p1), .slice tz tn tc, .int .i64 (p3), .int .i64 (p4), .int .i64 (p5), .int .i64 (p6), .int .i64 (p7), .slice xo xn xc, .int .u32 (p9), .int .u64 (p10), .int .u32 (p11), .int .i64 (p12), .bool (sp)] : List Value).toArray) = w99 at *
  clear hbD hrD
  go_wp2_with fail
  exact bodyPost_ret (v := .tuple #[.slice mo ml mc, .agg ([.int .i64 (0), .int .u64 (tk), .int .i64 (k0), .int .i64 (k1), .int .i64 (k2), .int .i64 (k3), .int .i64 (k4), .int .i64 (k5), .int .u64 (k6), .int .u64 (k7), .int .u64 (k8), .bool (k9), .int .i64 (k10), .int .i64 (p0), .int .i64 (p1), .slice tz tn tc, .int .i64 (p3), .int .i64 (p4), .int .i64 (p5), .int .i64 (p6), .int .i64 (p7), .slice xo xn xc, .int .u32 (p9), .int .u64 (p10), .int .u32 (p11), .int .i64 (p12), .bool (sp)] : List Value).toArray]) (results_tc (l := [.int .i64 (0), .int .u64 (tk), .int .i64 (k0), .int .i64 (k1), .int .i64 (k2), .int .i64 (k3), .int .i64 (k4), .int .i64 (k5), .int .u64 (k6), .int .u64 (k7), .int .u64 (k8), .bool (k9), .int .i64 (k10), .int .i64 (p0), .int .i64 (p1), .slice tz tn tc, .int .i64 (p3), .int .i64 (p4), .int .i64 (p5), .int .i64 (p6), .int .i64 (p7), .slice xo xn xc, .int .u32 (p9), .int .u64 (p10), .int .u32 (p11), .int .i64 (p12), .bool (sp)]) Tryz.results17 rfl rfl hr9 _ Tryz.underlying59 rfl (by kernel_rfl)) rfl ⟨_, _, _, _, rfl, by rw [HST.out]; exact HM.out _ hk9, by rw [HST.out]; exact HR0.out.kept hk9, hk9, fun g e => .inl rfl, by rw [HST.out]; exact fun q e => .inl e⟩

end Go.Proofs.YtfbcadknimfhjaaGreat

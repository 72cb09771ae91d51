/- A mutator's tasks that nobody else has seen: what its machine does with a node that is marked: walked. -/
import Derived.Test.YtapdpclgbpgklaaBuf
import Derived.Test.YtapdpclgbpgklaaGrow
import Derived.Test.YtapdpclgbpgklaaRegion
namespace Go.Proofs.Ytapdpclgbpgklaa
open Go.RowKit

/-- A buffer, with a machine at x; it owns O. -/
structure BuAt (w : World) (x bb bm bs bl base : Nat) (ts : List Int) (s : BS) (O : Nat → Prop) : Prop where
  all : ∀ y ∈ ts, U y
  own : ∀ k, O k → k < w.heap.size ∧ k ≠ bs ∧ k ≠ bl
  xin : O x
  bin : O bb
  xb : x ≠ bb
  bbase : bb < base ∧ base ≤ w.heap.size
  ex : ∃ tv cp pp, Blk w bb 80 [.pointer (some ⟨bm, 0, none⟩), tv] ∧ w.ownsRow base 45 1 tv ts.length (ts.map (Value.int .u64)) ∧ Blk w x 85 (bsL bb s.v cp pp s.ev (s.pc.val x)) ∧ (∀ g, tv.ownBlock = some g → O g ∧ g ≠ x) ∧
    (s.pc = .claims → s.cm.pc.fin = false ∧ ∃ cb, cp = .pointer (some ⟨cb, 0, none⟩) ∧ CmAt w cb bm s.cm ∧ O cb ∧ cb ≠ x ∧ cb ≠ bb ∧ ∀ g, tv.ownBlock = some g → g ≠ cb) ∧
    (s.pc = .puts → s.pm.pc.fin = false ∧ PmOk s.pm ∧ ∃ pb pbi pgt, pp = .pointer (some ⟨pb, 0, none⟩) ∧ PmAt w pb pbi pgt bm bs bl s.pm ∧ (O pb ∧ O pbi ∧ O pgt) ∧ (pb ≠ x ∧ pbi ≠ x ∧ pgt ≠ x) ∧ (pb ≠ bb ∧ pbi ≠ bb ∧ pgt ≠ bb) ∧ ∀ g, tv.ownBlock = some g → g ≠ pb ∧ g ≠ pbi ∧ g ≠ pgt)

theorem BuAt.chg {w w' : World} {S : Nat → Prop} {x bb bm bs bl base : Nat} {ts : List Int} {s : BS} {O : Nat → Prop} (h : BuAt w x bb bm bs bl base ts s O) (k : Chg S w w') (hS : ∀ q, O q → ¬ S q) : BuAt w' x bb bm bs bl base ts s O := by
  obtain ⟨all, own, xin, bin, xb, bbase, tv, cp, pp, hb, hr, hx, hg, h1, h2⟩ := h
  refine ⟨all, fun q hq => ⟨Nat.lt_of_lt_of_le (own q hq).1 k.size, (own q hq).2⟩, xin, bin, xb, ⟨bbase.1, Nat.le_trans bbase.2 k.size⟩, tv, cp, pp, k.blk hb (hS _ bin), ownsRow_chg hr k (fun q hq => hS _ (hg q hq).1), k.blk hx (hS _ xin), hg, fun e => ?_, fun e => ?_⟩
  · obtain ⟨y1, cb, rfl, hc, o, n⟩ := h1 e
    exact ⟨y1, cb, rfl, hc.chg k (hS _ o), o, n⟩
  · obtain ⟨y1, y2, pb, pbi, pgt, rfl, hp, o, n⟩ := h2 e
    exact ⟨y1, y2, pb, pbi, pgt, rfl, hp.chg k (hS _ o.1) (hS _ o.2.1) (hS _ o.2.2), o, n⟩

theorem BuAt.more {w : World} {x bb bm bs bl base : Nat} {ts : List Int} {s : BS} {O O' : Nat → Prop} (h : BuAt w x bb bm bs bl base ts s O) (hO : ∀ k, O k → O' k) (hO' : ∀ k, O' k → k < w.heap.size ∧ k ≠ bs ∧ k ≠ bl) : BuAt w x bb bm bs bl base ts s O' := by
  obtain ⟨all, own, xin, bin, xb, bbase, tv, cp, pp, hb, hr, hx, hg, h1, h2⟩ := h
  refine ⟨all, hO', hO _ xin, hO _ bin, xb, bbase, tv, cp, pp, hb, hr, hx, fun g e => ⟨hO _ (hg g e).1, (hg g e).2⟩, fun e => ?_, fun e => ?_⟩
  · obtain ⟨y1, cb, rfl, hc, o, n⟩ := h1 e
    exact ⟨y1, cb, rfl, hc, hO _ o, n⟩
  · obtain ⟨y1, y2, pb, pbi, pgt, rfl, hp, o, n⟩ := h2 e
    exact ⟨y1, y2, pb, pbi, pgt, rfl, hp, ⟨hO _ o.1, hO _ o.2.1, hO _ o.2.2⟩, n⟩

/-- What a slot has. -/
def slotV (w : World) (b i : Nat) : Value := (w.cell? ⟨b, i, none⟩).getD undef

theorem slotV_eq {w : World} {b i : Nat} {v : Value} (h : w.cell? ⟨b, i, none⟩ = some v) : slotV w b i = v := by unfold slotV; rw [h]; rfl

theorem slotV_is {w : World} {b i : Nat} {v : Value} (h : w.cell? ⟨b, i, none⟩ = some v) : w.cell? ⟨b, i, none⟩ = some (slotV w b i) := by rw [slotV_eq h]; exact h

/-- All tasks begin to be put. -/
abbrev putAll (ts : List Int) : PM := ⟨.spare, ts.take 4, 0, 0, ⟨.popHead, 5, 0, 0, 0⟩⟩

/-- One step of a buffer's machine: memory, the tasks, the machine. -/
def bsStep (c : Cfg) (mem ts : List Int) (s : BS) : List Int × List Int × BS :=
  match s.pc with
  | .done => (mem, ts, ⟨.done, s.v, s.cm, s.pm, Ev.zero⟩)
  | .claims => ((cmStep c mem s.cm).1,
      if (cmStep c mem s.cm).2.pc.fin then
        (if (cmStep c mem s.cm).2.won then
          (if (ts.length : Int) + 1 ≥ c.bu then (ts ++ [pairI s.v 0], ⟨.puts, s.v, (cmStep c mem s.cm).2, putAll (ts ++ [pairI s.v 0]), ⟨1, 0, s.v, 0, 0⟩⟩)
           else (ts ++ [pairI s.v 0], ⟨.done, s.v, (cmStep c mem s.cm).2, s.pm, ⟨1, 0, s.v, 0, 0⟩⟩))
        else (ts, ⟨.done, s.v, (cmStep c mem s.cm).2, s.pm, Ev.zero⟩))
      else (ts, ⟨.claims, s.v, (cmStep c mem s.cm).2, s.pm, Ev.zero⟩))
  | .puts => ((pmStep c mem s.pm).1,
      if (pmStep c mem s.pm).2.pc.fin then ([], ⟨.done, s.v, s.cm, (pmStep c mem s.pm).2, Ev.zero⟩) else (ts, ⟨.puts, s.v, s.cm, (pmStep c mem s.pm).2, Ev.zero⟩))

/-- The claim's step has been done: the machine's block, and the buffer's. -/
theorem own_snoc {w : World} {base : Nat} {tv : Value} {ts : List Int} (own : w.ownsRow base 45 1 tv ts.length (ts.map (Value.int .u64))) : ∃ ao cap, tv = .slice ao ts.length cap := own_slice own

set_option maxRecDepth 8000 in
set_option maxHeartbeats 1600000 in
theorem bclaims_does {x bb bm bs bl base B : Nat} {c : Cfg} {ts : List Int} {s : BS} {O : Nat → Prop} {mem : List Int} {n : Int} (w : World) (hg : Good c) (h : BuAt w x bb bm bs bl base ts s O) (hlt : ts.length < 999) (hs : StoreAt w bs bl mem n) (hm : MapAt w B bm c) (hB : B ≤ w.heap.size) (hO : ∀ k, O k → B ≤ k) (hBs : B ≤ bs) (hBl : B ≤ bl) (hp : s.pc = .claims) (hev : s.ev = Ev.zero) :
    Calls Try.prog 48 #[.pointer (some ⟨x, 0, none⟩), .pointer (some ⟨bs, 0, none⟩)] w fun r w' => r = .returned (.tuple #[]) ∧ BuAt w' x bb bm bs bl base (bsStep c mem ts s).2.1 (bsStep c mem ts s).2.2 (Grow O w w') ∧ StoreAt w' bs bl (bsStep c mem ts s).1 (cnt n) ∧ Chg (OwnB O bs bl) w w' := by
  obtain ⟨pc, v, cm, pm, ev⟩ := s
  simp only at hp hev
  subst hp hev
  obtain ⟨all, own, xin, bin, xb, bbase, tv, cp, pp, hb, hr, hx, hgo, h1, _⟩ := h
  obtain ⟨hcf, cb, rfl, hcm, ocb, cbx, cbb, gcb⟩ := h1 rfl
  simp only at hcf hcm hb hr hx
  have lcb := own cb ocb
  have lx := own x xin
  have lb := own bb bin
  obtain ⟨ls, ll⟩ := hs.lt
  have D := cstep_any w hg hcm hs hm lcb.2.1 lcb.2.2
  rw [hcf] at D
  simp only [bsStep]
  have hst : ∀ k, StB cb bs bl k → OwnB O bs bl k := by
    rintro k (rfl | rfl | rfl)
    · exact .inl ocb
    · exact .inr (.inl rfl)
    · exact .inr (.inr rfl)
  have nsx : ¬ StB cb bs bl x := fun e => e.elim (fun e => cbx e.symm) (fun e => e.elim lx.2.1 lx.2.2)
  have nsb : ¬ StB cb bs bl bb := fun e => e.elim (fun e => cbb e.symm) (fun e => e.elim lb.2.1 lb.2.2)
  have nsg : ∀ g, tv.ownBlock = some g → ¬ StB cb bs bl g := fun g e e' => by
    have := own g (hgo g e).1
    have := gcb g e
    rcases e' with e' | e' | e' <;> omega
  generalize cmStep c mem cm = rr at *
  obtain ⟨mem2, cm2⟩ := rr
  simp only at D ⊢
  have x2 := hx.cell 2
  simp only [List.getElem?_cons_zero, List.getElem?_cons_succ] at x2
  cases hf : cm2.pc.fin
  · simp only [Bool.false_eq_true, ↓reduceIte]
    rw [hf] at D
    go_enter Try.func48, Try.ntmps48
    go_wp2_with fail
    refine D.mono ?_; rintro r w2 ⟨rfl, hcm2, hs2, hc2⟩
    go_wp2_with fail
    refine bodyPost_ret (results_none rfl _ _ _) rfl ?_
    refine ⟨rfl, ⟨all, grow_ok own hc2.size ls ll, .inl xin, .inl bin, xb, ⟨bbase.1, Nat.le_trans bbase.2 hc2.size⟩, tv, _, pp, hc2.blk hb nsb, ownsRow_chg hr hc2 nsg, hc2.blk hx nsx, fun g e => ⟨.inl (hgo g e).1, (hgo g e).2⟩, fun _ => ⟨hf, cb, rfl, hcm2, .inl ocb, cbx, cbb, gcb⟩, fun e => by cases e⟩, hs2, hc2.mono (fun k _ e => hst k e)⟩
  · simp only [↓reduceIte]
    rw [hf] at D
    cases hw : cm2.won
    · simp only [Bool.false_eq_true, ↓reduceIte]
      go_enter Try.func48, Try.ntmps48
      go_wp2_with fail
      refine D.mono ?_; rintro r w2 ⟨rfl, hcm2, hs2, hc2⟩
      have hx2 := hc2.blk hx nsx
      have k2 := hx2.cell 2
      have k9 := hx2.cell 9
      have f9 := hx2.free 9
      simp only [List.getElem?_cons_zero, List.getElem?_cons_succ] at k2 k9
      have hc3 : Chg (fun k => k = x) w2 (w2.setCell ⟨x, 9, none⟩ .nilFunc) := (Chg.refl _ _).setCell _ _ (fun _ => rfl)
      have W := cwon_any _ (hcm2.chg hc3 (show ¬ cb = x from cbx))
      rw [hw] at W
      go_wp2_with fail
      refine W.mono ?_; rintro r w3 ⟨rfl, rfl⟩
      go_wp2_with fail
      refine bodyPost_ret (results_none rfl _ _ _) rfl ?_
      have hc4 : Chg (OwnB O bs bl) w (w2.setCell ⟨x, 9, none⟩ .nilFunc) := (hc2.mono (fun k _ e => hst k e)).trans (hc3.mono (fun k _ e => .inl (e ▸ xin)))
      refine ⟨rfl, ⟨all, grow_ok own hc4.size ls ll, .inl xin, .inl bin, xb, ⟨bbase.1, Nat.le_trans bbase.2 hc4.size⟩, tv, _, pp, hc3.blk (hc2.blk hb nsb) (show ¬ bb = x from Ne.symm xb), ownsRow_chg (ownsRow_chg hr hc2 nsg) hc3 (fun g e => (hgo g e).2), hx2.set' 9 _ rfl, fun g e => ⟨.inl (hgo g e).1, (hgo g e).2⟩, fun e => (by cases e), fun e => by cases e⟩, hs2.chg hc3 (show ¬ bs = x from Ne.symm lx.2.1) (show ¬ bl = x from Ne.symm lx.2.2), hc4⟩
    · simp only [↓reduceIte]
      have hbuf : 1 ≤ c.bu ∧ c.bu ≤ 4 := by unfold Good at hg; omega
      go_enter Try.func48, Try.ntmps48
      go_wp2_with fail
      refine D.mono ?_; rintro r w2 ⟨rfl, hcm2, hs2, hc2⟩
      have hx2 := hc2.blk hx nsx
      have hb2 := hc2.blk hb nsb
      have own2 := ownsRow_chg hr hc2 nsg
      have k0 := hx2.cell 0
      have k1 := hx2.cell 1
      have k2 := hx2.cell 2
      have k4 := hx2.cell 4
      have k5 := hx2.cell 5
      have k6 := hx2.cell 6
      have k7 := hx2.cell 7
      have k8 := hx2.cell 8
      have k9 := hx2.cell 9
      have f4 := hx2.free 4
      have f5 := hx2.free 5
      have f6 := hx2.free 6
      have f7 := hx2.free 7
      have f8 := hx2.free 8
      have f9 := hx2.free 9
      simp only [List.getElem?_cons_zero, List.getElem?_cons_succ] at k0 k1 k2 k4 k5 k6 k7 k8 k9
      have hc3 : Chg (fun k => k = x) w2 (w2.setCell ⟨x, 9, none⟩ .nilFunc) := (Chg.refl _ _).setCell _ _ (fun _ => rfl)
      have W := cwon_any _ (hcm2.chg hc3 (show ¬ cb = x from cbx))
      rw [hw] at W
      go_wp2_with fail
      refine W.mono ?_; rintro r w3 ⟨rfl, rfl⟩
      go_wp2_with fail
      have hx4 : Blk ((((((w2.setCell ⟨x, 9, none⟩ .nilFunc).setCell ⟨x, 4, none⟩ (.int .i64 1)).setCell ⟨x, 5, none⟩ (.int .i64 0)).setCell ⟨x, 6, none⟩ (.int .i64 v)).setCell ⟨x, 7, none⟩ (.int .i64 0)).setCell ⟨x, 8, none⟩ (.int .i64 0)) x 85 (bsL bb v (.pointer (some ⟨cb, 0, none⟩)) pp ⟨1, 0, v, 0, 0⟩ .nilFunc) := (((((hx2.set' 9 _ rfl).set' 4 _ rfl).set' 5 _ rfl).set' 6 _ rfl).set' 7 _ rfl).set' 8 _ rfl
      have hc4 : Chg (fun k => k = x) w2 ((((((w2.setCell ⟨x, 9, none⟩ .nilFunc).setCell ⟨x, 4, none⟩ (.int .i64 1)).setCell ⟨x, 5, none⟩ (.int .i64 0)).setCell ⟨x, 6, none⟩ (.int .i64 v)).setCell ⟨x, 7, none⟩ (.int .i64 0)).setCell ⟨x, 8, none⟩ (.int .i64 0)) := (((((hc3.setCell _ _ (fun _ => rfl)).setCell _ _ (fun _ => rfl)).setCell _ _ (fun _ => rfl)).setCell _ _ (fun _ => rfl)).setCell _ _ (fun _ => rfl))
      generalize ((((((w2.setCell ⟨x, 9, none⟩ .nilFunc).setCell ⟨x, 4, none⟩ (.int .i64 1)).setCell ⟨x, 5, none⟩ (.int .i64 0)).setCell ⟨x, 6, none⟩ (.int .i64 v)).setCell ⟨x, 7, none⟩ (.int .i64 0)).setCell ⟨x, 8, none⟩ (.int .i64 0)) = w4 at *
      have hb4 := hc4.blk hb2 (show ¬ bb = x from Ne.symm xb)
      have own4 := ownsRow_chg own2 hc4 (fun g e => (hgo g e).2)
      have z4 : w.heap.size ≤ w4.heap.size := Nat.le_trans hc2.size hc4.size
      clear k0 k1 k2 k4 k5 k6 k7 k8 k9 f4 f5 f6 f7 f8 f9 W hc3 D
      obtain ⟨i0, hi, hz0, hz1, hz2⟩ := info_parts info_u64
      have hlo := loI_range v
      obtain ⟨hl0, hl1⟩ := hlo
      have hP : loI v * 4294967296 + 0 = pairI v 0 := rfl
      have hPU := pairI_U v 0
      have hw32 := wrap_u32_loI v
      obtain ⟨pv, hpv⟩ : ∃ pv, pairI v 0 = pv := ⟨_, rfl⟩
      rw [hpv] at hP hPU
      have HPV : Hid (pairI v 0 = pv) := hpv
      clear hpv
      generalize loI v = lv at *
      have HP : Hid (lv * 4294967296 + 0 = pv) := hP
      clear hP
      have x0 := hx4.cell 0
      have x1 := hx4.cell 1
      have b1 := hb4.cell 1
      have fb1 := hb4.free 1
      simp only [List.getElem?_cons_zero, List.getElem?_cons_succ] at x0 x1 b1
      have h63 : ts.length + 1 ≤ maxLen := by unfold maxLen; omega
      have hb8 : (ts.length + 1) * 8 ≤ 140737488355328 := by omega
      have hro : ∀ g, tv.ownBlock = some g → base ≤ g := fun g e => (ownsRow_base own4 g e).1
      have hgx : ∀ g, tv.ownBlock = some g → g ≠ x := fun g e => (hgo g e).2
      obtain ⟨ao, cap, rfl⟩ := own_slice own4
      have hxa := hx4.alloc (.cells #[.int .u64 pv] 45)
      have hba := hb4.alloc (.cells #[.int .u64 pv] 45)
      have x0a := hxa.cell 0
      have x1a := hxa.cell 1
      have b1a := hba.cell 1
      simp only [List.getElem?_cons_zero, List.getElem?_cons_succ] at x0a x1a b1a
      refine wp_region_z 21 (fun w' => w'.cell? ⟨x, 0, none⟩ = some (.pointer (some ⟨bb, 0, none⟩)) ∧ w'.cell? ⟨x, 1, none⟩ = some (.int .i64 v) ∧ w'.cell? ⟨bb, 1, none⟩ = some (.slice ao ts.length cap)) (by kernel_rfl) ?_
      refine wpAnyZ_take (i := 0) (v := ?v0) rfl (by kernel_rfl) (by kernel_rfl) (by kernel_rfl) (by kernel_rfl) (fun _ _ _ h => h) (Or.inl ⟨by rfl, ?hy0⟩) ⟨x0,x1,b1⟩ ?_
      case hy0 => intro w hSw; (try dsimp only at hSw); first | (go_simp; done) | (go_simp; with_reducible rfl)
      try simp only [Act.put, List.setIfInBounds_toArray, List.set_cons_zero, List.set_cons_succ]
      refine wpAnyZ_take (i := 1) (v := ?v1) rfl (by kernel_rfl) (by kernel_rfl) (by kernel_rfl) (by kernel_rfl) (fun _ _ _ h => h) (Or.inl ⟨by rfl, ?hy1⟩) ⟨x0,x1,b1⟩ ?_
      case hy1 => intro w hSw; (try dsimp only at hSw); first | (go_simp; done) | (go_simp; with_reducible rfl)
      try simp only [Act.put, List.setIfInBounds_toArray, List.set_cons_zero, List.set_cons_succ]
      refine wpAnyZ_take (i := 2) (v := ?v2) rfl (by kernel_rfl) (by kernel_rfl) (by kernel_rfl) (by kernel_rfl) (fun _ _ _ h => h) (Or.inl ⟨by rfl, ?hy2⟩) ⟨x0,x1,b1⟩ ?_
      case hy2 => intro w hSw; (try dsimp only at hSw); first | (go_simp; done) | (go_simp; with_reducible rfl)
      try simp only [Act.put, List.setIfInBounds_toArray, List.set_cons_zero, List.set_cons_succ]
      refine wpAnyZ_take (i := 3) (v := ?v3) rfl (by kernel_rfl) (by kernel_rfl) (by kernel_rfl) (by kernel_rfl) (fun _ _ _ h => h) (Or.inl ⟨by rfl, ?hy3⟩) ⟨x0,x1,b1⟩ ?_
      case hy3 => intro w hSw; (try dsimp only at hSw); first | (go_simp; done) | (go_simp; with_reducible rfl)
      try simp only [Act.put, List.setIfInBounds_toArray, List.set_cons_zero, List.set_cons_succ]
      refine wpAnyZ_take (i := 4) (v := ?v4) rfl (by kernel_rfl) (by kernel_rfl) (by kernel_rfl) (by kernel_rfl) (fun _ _ _ h => h) (Or.inl ⟨by rfl, ?hy4⟩) ⟨x0,x1,b1⟩ ?_
      case hy4 => intro w hSw; (try dsimp only at hSw); first | (go_simp; done) | (go_simp; with_reducible rfl)
      try simp only [Act.put, List.setIfInBounds_toArray, List.set_cons_zero, List.set_cons_succ]
      refine wpAnyZ_take (i := 5) (v := ?v5) rfl (by kernel_rfl) (by kernel_rfl) (by kernel_rfl) (by kernel_rfl) (fun _ _ _ h => h) (Or.inl ⟨by rfl, ?hy5⟩) ⟨x0,x1,b1⟩ ?_
      case hy5 => intro w hSw; (try dsimp only at hSw); first | (go_simp; done) | (go_simp; with_reducible rfl)
      try simp only [Act.put, List.setIfInBounds_toArray, List.set_cons_zero, List.set_cons_succ]
      refine wpAnyZ_take (i := 6) (v := ?v6) rfl (by kernel_rfl) (by kernel_rfl) (by kernel_rfl) (by kernel_rfl) (fun _ _ _ h => h) (Or.inl ⟨by rfl, ?hy6⟩) ⟨x0,x1,b1⟩ ?_
      case hy6 => intro w hSw; (try dsimp only at hSw); first | (go_simp; done) | (go_simp; with_reducible rfl)
      try simp only [Act.put, List.setIfInBounds_toArray, List.set_cons_zero, List.set_cons_succ]
      refine wpAnyZ_take (i := 7) (v := ?v7) rfl (by kernel_rfl) (by kernel_rfl) (by kernel_rfl) (by kernel_rfl) (fun _ _ _ h => h) (Or.inl ⟨by rfl, ?hy7⟩) ⟨x0,x1,b1⟩ ?_
      case hy7 => intro w hSw; (try dsimp only at hSw); first | (go_simp; done) | (go_simp; with_reducible rfl)
      try simp only [Act.put, List.setIfInBounds_toArray, List.set_cons_zero, List.set_cons_succ]
      refine wpAnyZ_take (i := 8) (v := ?v8) rfl (by kernel_rfl) (by kernel_rfl) (by kernel_rfl) (by kernel_rfl) (fun _ _ _ h => h) (Or.inl ⟨by rfl, ?hy8⟩) ⟨x0,x1,b1⟩ ?_
      case hy8 => intro w hSw; (try dsimp only at hSw); first | (go_simp; done) | (go_simp; with_reducible rfl)
      try simp only [Act.put, List.setIfInBounds_toArray, List.set_cons_zero, List.set_cons_succ]
      refine wpAnyZ_take (i := 9) (v := ?v9) rfl (by kernel_rfl) (by kernel_rfl) (by kernel_rfl) (by kernel_rfl) (fun _ _ _ h => h) (Or.inl ⟨by rfl, ?hy9⟩) ⟨x0,x1,b1⟩ ?_
      case hy9 => intro w hSw; (try dsimp only at hSw); first | (go_simp; done) | (go_simp; with_reducible rfl)
      try simp only [Act.put, List.setIfInBounds_toArray, List.set_cons_zero, List.set_cons_succ]
      refine wpAnyZ_take (i := 10) (v := ?v10) rfl (by kernel_rfl) (by kernel_rfl) (by kernel_rfl) (by kernel_rfl) (fun _ _ _ h => h) (Or.inl ⟨by rfl, ?hy10⟩) ⟨x0,x1,b1⟩ ?_
      case hy10 => intro w hSw; (try dsimp only at hSw); first | (go_simp; done) | (go_simp; with_reducible rfl)
      try simp only [Act.put, List.setIfInBounds_toArray, List.set_cons_zero, List.set_cons_succ]
      refine wpAnyZ_take (i := 11) (v := ?v11) rfl (by kernel_rfl) (by kernel_rfl) (by kernel_rfl) (by kernel_rfl) (fun _ _ _ h => h) (Or.inl ⟨by rfl, ?hy11⟩) ⟨x0,x1,b1⟩ ?_
      case hy11 => intro w hSw; (try dsimp only at hSw); first | (go_simp; done) | (go_simp; with_reducible rfl)
      try simp only [Act.put, List.setIfInBounds_toArray, List.set_cons_zero, List.set_cons_succ]
      refine wpAnyZ_take (i := 12) (v := ?v12) rfl (by kernel_rfl) (by kernel_rfl) (by kernel_rfl) (by kernel_rfl) (fun _ _ _ h => h) (Or.inl ⟨by rfl, ?hy12⟩) ⟨x0,x1,b1⟩ ?_
      case hy12 => intro w hSw; (try dsimp only at hSw); first | (go_simp; done) | (go_simp; with_reducible rfl)
      try simp only [Act.put, List.setIfInBounds_toArray, List.set_cons_zero, List.set_cons_succ]
      refine wpAnyZ_take (i := 13) (v := ?v13) rfl (by kernel_rfl) (by kernel_rfl) (by kernel_rfl) (by kernel_rfl) (fun _ _ _ h => h) (Or.inl ⟨by rfl, ?hy13⟩) ⟨x0,x1,b1⟩ ?_
      case hy13 => intro w hSw; (try dsimp only at hSw); first | (go_simp; done) | (go_simp; with_reducible rfl)
      try simp only [Act.put, List.setIfInBounds_toArray, List.set_cons_zero, List.set_cons_succ]
      refine wpAnyZ_take (i := 14) (v := ?v14) rfl (by kernel_rfl) (by kernel_rfl) (by kernel_rfl) (by kernel_rfl) (fun _ _ _ h => h) (Or.inl ⟨by rfl, ?hy14⟩) ⟨x0,x1,b1⟩ ?_
      case hy14 => intro w hSw; (try dsimp only at hSw); first | (go_simp; done) | (go_simp; with_reducible rfl)
      try simp only [Act.put, List.setIfInBounds_toArray, List.set_cons_zero, List.set_cons_succ]
      refine wpAnyZ_take (i := 15) (v := ?v15) rfl (by kernel_rfl) (by kernel_rfl) (by kernel_rfl) (by kernel_rfl) (fun _ _ _ h => h) (Or.inl ⟨by rfl, ?hy15⟩) ⟨x0,x1,b1⟩ ?_
      case hy15 => intro w hSw; (try dsimp only at hSw); first | (go_simp; done) | (go_simp; with_reducible rfl)
      try simp only [Act.put, List.setIfInBounds_toArray, List.set_cons_zero, List.set_cons_succ]
      refine wpAnyZ_one (i := 16) (by kernel_rfl) rfl (fun K hK => ?_)
      go_simp
      go_at_call 31
      refine (pair_any lv 0 _ hl0 hl1 (by omega) (by omega)).mono ?_; rintro r w5 ⟨rfl, rfl⟩
      rw [HP.out]
      refine hK.out _ _ (fun _ => ⟨x0, x1, b1⟩) ?_
      clear hK K
      try simp only [Act.put, List.setIfInBounds_toArray, List.set_cons_zero, List.set_cons_succ]
      refine wpAnyZ_one (i := 17) (by kernel_rfl) rfl (fun K hK => ?_)
      go_simp
      refine hK.out _ _ (fun _ => ⟨x0a, x1a, b1a⟩) ?_
      clear hK K
      try simp only [Act.put, List.setIfInBounds_toArray, List.set_cons_zero, List.set_cons_succ]
      refine wpAnyZ_one (i := 18) (by kernel_rfl) rfl (fun K hK => ?_)
      refine step_append_lies _ (by rfl) _ _ _ (by rfl) base 45 i0 _ 1 8 Try.underlying35 hi hz0 hz1 hz2 rfl (by omega) (.slice ao ts.length cap) ts.length (ts.map (Value.int .u64)) (by rfl) ((own4.alloc _).drew)
        ⟨w4.heap.size, 0, none⟩ 1 1 [.int .u64 pv] (by rfl) (by rfl) (World.news_of_block (cs := #[.int .u64 pv]) (t := 45) (fr := (0, 0)) (heap_alloc_new w4 _)) (by simp [Value.oneCell'])
        (by omega) h63 hb8 (by simp; omega) (w4.heap.size + 1) (by simp) ?_
      intro gt gcap w5 own5 hgrow hat hlt5
      have hb5 := Blk.grown ((hb4.alloc _).drew) hgrow (fun e => by have := hro _ e; omega)
      have hx5 := Blk.grown ((hx4.alloc _).drew) hgrow (fun e => absurd rfl (hgx _ e))
      have x0' := hx5.cell 0
      have x1' := hx5.cell 1
      have f1' := hb5.free 1
      have b1' := hb5.cell 1
      simp only [List.getElem?_cons_zero, List.getElem?_cons_succ] at b1' x0' x1'
      refine hK.out _ _ (fun _ => ⟨x0', x1', b1'⟩) ?_
      clear hK K
      try simp only [Act.put, List.setIfInBounds_toArray, List.set_cons_zero, List.set_cons_succ]
      refine wpAnyZ_one (i := 19) (by kernel_rfl) rfl (fun K hK => ?_)
      go_simp
      refine hK.out _ _ (fun _ => ⟨x0', x1', b1'⟩) ?_
      clear hK K
      try simp only [Act.put, List.setIfInBounds_toArray, List.set_cons_zero, List.set_cons_succ]
      refine wpAnyZ_one (i := 20) (by kernel_rfl) rfl (fun K hK => ?_)
      go_simp
      refine hK.out _ _ (fun _ => ⟨x0', x1', b1'⟩) ?_
      clear hK K
      try simp only [Act.put, List.setIfInBounds_toArray, List.set_cons_zero, List.set_cons_succ]
      refine wpAnyZ_one (i := 21) (by kernel_rfl) rfl (fun K hK => ?_)
      go_simp
      refine hK.out _ _ (fun h => absurd rfl h) ?_
      refine wpAnyZ_done (by kernel_rfl) ?_ _
      clear hK K
      have hb6 : Blk (w5.setCell ⟨bb, 1, none⟩ (.slice (some ⟨gt, 0, none⟩) (ts.length + 1) gcap)) bb 80 [.pointer (some ⟨bm, 0, none⟩), .slice (some ⟨gt, 0, none⟩) (ts.length + 1) gcap] := hb5.set' 1 _ rfl
      have hcb : Chg (fun k => k = bb) w5 (w5.setCell ⟨bb, 1, none⟩ (.slice (some ⟨gt, 0, none⟩) (ts.length + 1) gcap)) := (Chg.refl _ _).setCell _ _ (fun _ => rfl)
      have hx6 := hcb.blk hx5 (show ¬ x = bb from xb)
      have own6 := ownsRow_setCell_below own5 (a := ⟨bb, 1, none⟩) (show bb < base from bbase.1) (.slice (some ⟨gt, 0, none⟩) (ts.length + 1) gcap)
      have hgt : (∃ g, (Value.slice ao ts.length cap).ownBlock = some g ∧ gt = g) ∨ gt = w4.heap.size + 1 := by
        rcases hat with e | e
        · exact .inl ⟨gt, e, rfl⟩
        · exact .inr e
      have hgx6 : gt ≠ x := by
        rcases hgt with ⟨g, e, rfl⟩ | e
        · exact hgx _ e
        · omega
      have hgb6 : gt ≠ bb := by
        rcases hgt with ⟨g, e, rfl⟩ | e
        · have := hro _ e; omega
        · omega
      have hcg : Chg (OwnB O bs bl) w w5 := by
        have h1 : Chg (OwnB O bs bl) w w4 := (hc2.mono (fun k _ e => hst k e)).trans (hc4.mono (fun k _ e => .inl (e ▸ xin)))
        exact ((h1.alloc _).drew).grown hgrow (fun k e hk => .inl ((hgo k e).1))
      have hcw : Chg (OwnB O bs bl) w (w5.setCell ⟨bb, 1, none⟩ (.slice (some ⟨gt, 0, none⟩) (ts.length + 1) gcap)) := hcg.trans (hcb.mono (fun k _ e => .inl (e ▸ bin)))
      have hcs : Chg (fun k => k = x ∨ k = bb ∨ (Value.slice ao ts.length cap).ownBlock = some k) w2 (w5.setCell ⟨bb, 1, none⟩ (.slice (some ⟨gt, 0, none⟩) (ts.length + 1) gcap)) :=
        ((((hc4.mono (fun _ _ e => .inl e)).alloc _).drew).grown hgrow (fun k e hk => .inr (.inr e))).trans (hcb.mono (fun _ _ e => .inr (.inl e)))
      have hs6 := hs2.chg hcs (fun e => by rcases e with e | e | e; exact lx.2.1 e.symm; exact lb.2.1 e.symm; exact (own _ (hgo _ e).1).2.1 rfl) (fun e => by rcases e with e | e | e; exact lx.2.2 e.symm; exact lb.2.2 e.symm; exact (own _ (hgo _ e).1).2.2 rfl)
      have hm6 : MapAt (w5.setCell ⟨bb, 1, none⟩ (.slice (some ⟨gt, 0, none⟩) (ts.length + 1) gcap)) B bm c := hm.below (hcw.ownBelow hB hO hBs hBl) (Nat.le_refl _)
      have hgl : gt < (w5.setCell ⟨bb, 1, none⟩ (.slice (some ⟨gt, 0, none⟩) (ts.length + 1) gcap)).heap.size := by simpa using hlt5
      have hGg : Grow O w (w5.setCell ⟨bb, 1, none⟩ (.slice (some ⟨gt, 0, none⟩) (ts.length + 1) gcap)) gt := by
        rcases hgt with ⟨g, e, rfl⟩ | e
        · exact .inl (hgo _ e).1
        · exact .inr ⟨by omega, hgl⟩
      generalize w5.setCell ⟨bb, 1, none⟩ (.slice (some ⟨gt, 0, none⟩) (ts.length + 1) gcap) = w6 at *
      clear x0 x1 b1 fb1 x0a x1a b1a x0' x1' f1' b1' hxa hba hx5 hb5 own5 hgrow hat hcb hcg hcs hs2 hc2 hc4 hx4 hb4 own4 hro own2 hx2 hb2 hcm2
      have k0 := hx6.cell 0
      have c0 := hb6.cell 0
      have c1 := hb6.cell 1
      simp only [List.getElem?_cons_zero, List.getElem?_cons_succ] at k0 c0 c1
      have hcf2 := fun W => cfg_bu c.c0 c.c1 c.c2 c.c3 c.c4 c.mks c.mus c.dq c.ch c.bu c.ro c.sw W
      have hlen' : (ts ++ [pv]).length = ts.length + 1 := by simp
      have hmap' : (ts ++ [pv]).map (Value.int .u64) = ts.map (Value.int .u64) ++ [.int .u64 pv] := by simp
      have hall' : ∀ y ∈ ts ++ [pv], U y := fun y hy => by
        rcases List.mem_append.1 hy with h | h
        · exact all y h
        · simp at h; subst h; exact hPU
      have own6' : w6.ownsRow base 45 1 (.slice (some ⟨gt, 0, none⟩) (ts.length + 1) gcap) (ts ++ [pv]).length ((ts ++ [pv]).map (Value.int .u64)) := by rw [hlen', hmap']; exact own6
      have HLN : Hid ((ts ++ [pv]).length = ts.length + 1) := hlen'
      have HMP : Hid _ := hmap'
      have HAL : Hid _ := hall'
      have HOW : Hid _ := own6'
      clear hlen' hmap' hall' own6 own6'
      by_cases hbig : (ts.length : Int) + 1 ≥ c.bu
      · have hbig' : c.bu ≤ (ts.length : Int) + 1 := hbig
        have hdb : decide (c.bu ≤ (ts.length : Int) + 1) = true := decide_eq_true hbig'
        go_wp2_with fail
        go_region_held3 (fun w' => w'.cell? ⟨x, 0, none⟩ = some (.pointer (some ⟨bb, 0, none⟩)) ∧ w'.cell? ⟨bb, 0, none⟩ = some (.pointer (some ⟨bm, 0, none⟩)) ∧ w'.cell? ⟨bb, 1, none⟩ = some (.slice (some ⟨gt, 0, none⟩) (ts.length + 1) gcap))
          (first | exact ⟨k0, c0, c1⟩ | exact ⟨j0, d0, d1⟩)
          (first
           | (go_at_call 70; refine (mConfig_any _ hm6.drew).mono ?_; rintro r w7 ⟨rfl, hk7⟩
              have hx7 := hk7.blk hx6.drew
              have hb7 := hk7.blk hb6.drew
              have j0 := hx7.cell 0
              have d0 := hb7.cell 0
              have d1 := hb7.cell 1
              simp only [List.getElem?_cons_zero, List.getElem?_cons_succ] at j0 d0 d1))
        all_goals
          have hK7 : Kept w6 w7 := (show Kept w6 w6.drew from (Below.refl _ _).drew).trans' hk7
          have F := bflush_some w7 hx7 hb7 (ownsRow_kept HOW.out hK7) HAL.out (by rw [HLN.out]; omega) (by rw [HLN.out]; omega) (hs6.kept hK7) (hm6.kept hK7 (Nat.le_trans hB hcw.size)) (Nat.le_trans hB (Nat.le_trans hcw.size hK7.size)) (hO x xin) xb lx.2.1 lx.2.2 (fun g e => by simp [Value.ownBlock] at e; omega)
          go_wp2_with fail
          refine F.mono ?_; rintro r w8 ⟨rfl, pb, pbi, pgt, hx8, hp8, y1, y2, y3, y4, hc8⟩
          go_wp2_with fail
          go_end0
          simp only [if_pos (show (ts.length : Int) + 1 ≥ c.bu by omega)]
          have hKs := hK7.size
          have hcz := hcw.size
          have hc9 : Chg (OwnB O bs bl) w w8 := (hcw.trans (Chg.ofBelow hK7)).trans (hc8.mono (fun k _ e => .inl (e ▸ xin)))
          have y5 : pb < w8.heap.size := by obtain ⟨_, _, hbb, _⟩ := hp8.ex; exact hbb.lt
          have y6 : pbi < w8.heap.size := by obtain ⟨_, _, _, _, hin⟩ := hp8.ex; obtain ⟨_, ⟨_, _, hq⟩, _⟩ := hin trivial; exact hq.lt
          have hg8 : Grow O w w8 gt := by
            rcases hGg with e | e
            · exact .inl e
            · exact .inr ⟨e.1, by have := hc8.size; omega⟩
          have hpl : 0 < ((ts ++ [pv]).take 4).length := by rw [List.length_take, HLN.out]; omega
          obtain rfl := HPV.out
          refine ⟨by first | rfl | trivial, ⟨HAL.out, grow_ok own hc9.size ls ll, .inl xin, .inl bin, xb, ⟨bbase.1, Nat.le_trans bbase.2 hc9.size⟩, _, _, _, hc8.blk hb7 (show ¬ bb = x from Ne.symm xb), ownsRow_chg (ownsRow_kept HOW.out hK7) hc8 (fun g e => by simp [Value.ownBlock] at e; show ¬ g = x; omega), hx8, fun g e => by simp [Value.ownBlock] at e; subst e; exact ⟨hg8, hgx6⟩, fun e => (by cases e), fun _ => ⟨rfl, ⟨fun _ => ⟨rfl, hpl⟩, fun e => by cases e⟩, pb, pbi, pgt, rfl, hp8, ⟨.inr ⟨by omega, y5⟩, .inr ⟨by omega, y6⟩, .inr ⟨by omega, y4⟩⟩, ⟨by omega, by omega, by omega⟩, ⟨by omega, by omega, by omega⟩, fun g e => by simp [Value.ownBlock] at e; omega⟩⟩, (hs6.kept hK7).chg hc8 (show ¬ bs = x from Ne.symm lx.2.1) (show ¬ bl = x from Ne.symm lx.2.2), hc9⟩
      · have hbig' : ¬ c.bu ≤ (ts.length : Int) + 1 := hbig
        have hdb : decide (c.bu ≤ (ts.length : Int) + 1) = false := decide_eq_false hbig'
        go_wp2_with fail
        go_region_held3 (fun w' => w'.cell? ⟨x, 0, none⟩ = some (.pointer (some ⟨bb, 0, none⟩)) ∧ w'.cell? ⟨bb, 0, none⟩ = some (.pointer (some ⟨bm, 0, none⟩)) ∧ w'.cell? ⟨bb, 1, none⟩ = some (.slice (some ⟨gt, 0, none⟩) (ts.length + 1) gcap))
          (first | exact ⟨k0, c0, c1⟩ | exact ⟨j0, d0, d1⟩)
          (first
           | (go_at_call 70; refine (mConfig_any _ hm6.drew).mono ?_; rintro r w7 ⟨rfl, hk7⟩
              have hx7 := hk7.blk hx6.drew
              have hb7 := hk7.blk hb6.drew
              have j0 := hx7.cell 0
              have d0 := hb7.cell 0
              have d1 := hb7.cell 1
              simp only [List.getElem?_cons_zero, List.getElem?_cons_succ] at j0 d0 d1))
        all_goals
          have hK7 : Kept w6 w7 := (show Kept w6 w6.drew from (Below.refl _ _).drew).trans' hk7
          go_wp2_with fail
          go_end0
          simp only [if_neg (show ¬ ((ts.length : Int) + 1 ≥ c.bu) by omega)]
          have hKs := hK7.size
          have hcz := hcw.size
          have hc9 : Chg (OwnB O bs bl) w w7 := hcw.trans (Chg.ofBelow hK7)
          have hg8 : Grow O w w7 gt := by
            rcases hGg with e | e
            · exact .inl e
            · exact .inr ⟨e.1, by omega⟩
          obtain rfl := HPV.out
          refine ⟨by first | rfl | trivial, ⟨HAL.out, grow_ok own hc9.size ls ll, .inl xin, .inl bin, xb, ⟨bbase.1, Nat.le_trans bbase.2 hc9.size⟩, _, _, _, hb7, ownsRow_kept HOW.out hK7, hx7, fun g e => by simp [Value.ownBlock] at e; subst e; exact ⟨hg8, hgx6⟩, fun e => (by cases e), fun e => by cases e⟩, hs6.kept hK7, hc9⟩

end Go.Proofs.Ytapdpclgbpgklaa

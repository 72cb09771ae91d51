/- Packets put, taken and put back one at a time: walked. -/
import Derived.Test.YtgfcdjedijloeaaQueue
import Derived.Test.YtgfcdjedijloeaaReads
import Derived.Test.YtgfcdjedijloeaaSeq2
import Derived.Test.YtgfcdjedijloeaaNone11
namespace Go.Proofs.Ytgfcdjedijloeaa
open Go Go.RowKit

/-- What the law's loop knows: the packets in the pool (each with its tasks, and the block of them), those that are out, and the spare ones. -/
structure Al (c : Cfg) (bm B bs bl base : Nat) (w : World) (vl vo : Value) (LT : List (Int × List Int × Nat)) (O S mem : List Int) : Prop where
  map : MapAt w B bm c
  lay : B ≤ bs ∧ B ≤ bl ∧ bs < base ∧ bl < base ∧ B ≤ base ∧ base ≤ w.heap.size
  store : ∃ n, StoreAt w bs bl mem n
  inv : Inv c mem (LT.map (·.1)).reverse S
  nd : ∀ p ∈ O, p ∉ LT.map (·.1) ∧ p ∉ S
  ond : O.Nodup
  rng : ∀ p ∈ O, 1 ≤ p ∧ p ≤ manyI c
  cnt : ((LT.length + S.length + O.length : Nat) : Int) = manyI c
  cont : ∀ e ∈ LT, Content c mem e.1 e.2.1 ∧ 0 < e.2.1.length ∧ e.2.1.length ≤ 4
  blk : ∀ e ∈ LT, base ≤ e.2.2 ∧ ∃ rest, Blk w e.2.2 39 (e.2.1.map (Value.int .u64) ++ rest)
  lrow : w.ownsRow base 25 1 vl LT.length (LT.map fun e => .slice (some ⟨e.2.2, 0, none⟩) e.2.1.length 4)
  orow : QRow w base 3 vo (O.map (Value.int .i64))

/-- What a change of memory alone keeps. -/
theorem Al.keep {c : Cfg} {bm B bs bl base : Nat} {w w' : World} {vl vo : Value} {LT : List (Int × List Int × Nat)} {O S mem : List Int} (h : Al c bm B bs bl base w vl vo LT O S mem) (k : Chg (MemB bs bl) w w') :
    MapAt w' B bm c ∧ base ≤ w'.heap.size ∧ (∀ e ∈ LT, base ≤ e.2.2 ∧ ∃ rest, Blk w' e.2.2 39 (e.2.1.map (Value.int .u64) ++ rest)) ∧
      w'.ownsRow base 25 1 vl LT.length (LT.map fun e => .slice (some ⟨e.2.2, 0, none⟩) e.2.1.length 4) ∧ QRow w' base 3 vo (O.map (Value.int .i64)) := by
  obtain ⟨l1, l2, l3, l4, l5, l6⟩ := h.lay
  have hne : ∀ i, base ≤ i → ¬ MemB bs bl i := fun i hi e => by rcases e with e | e <;> omega
  refine ⟨h.map.below (k.toBelow (B := B) (by omega) (fun i hi e => by rcases e with e | e <;> omega)) (Nat.le_refl _), by have := k.size; omega, fun e he => ?_, ownsRow_chg h.lrow k (fun g hg => hne g (ownsRow_base h.lrow g hg).1), h.orow.chg k (fun g hg => hne g (h.orow.base g hg).1)⟩
  obtain ⟨h1, rest, h2⟩ := h.blk e he
  exact ⟨h1, rest, k.blk h2 (hne _ h1)⟩

/-- A packet that was put is run to its end. -/
theorem putRun {c : Cfg} {bm bs bl B : Nat} {p : Int} {P S t mem : List Int} {n : Int} {ad : Addr} {cap : Nat} (w : World) (hg : Good c) (hm : MapAt w B bm c) (hB : B ≤ w.heap.size) (h3 : B ≤ bs) (h4 : B ≤ bl) (hs : StoreAt w bs bl mem n) (hi : Inv c mem P (p :: S)) (ht : 0 < t.length) (ht4 : t.length ≤ 4) (hcap : t.length ≤ cap) (hcell : ∀ i u, (t.map (Value.int .u64))[i]? = some u → w.cell? (ad.add i) = some u) (hadl : ad.block < w.heap.size) (hall : ∀ x ∈ t, U x) :
    Calls Try.prog 18 #[.pointer (some ⟨bm, 0, none⟩), .slice (some ad) t.length cap] w fun e w1 => ∃ b, e = .returned (.pointer (some ⟨b, 0, none⟩)) ∧
      Calls Try.prog 17 #[.pointer (some ⟨b, 0, none⟩), .pointer (some ⟨bs, 0, none⟩)] w1 fun e2 w2 => e2 = .returned (.int .i64 p) ∧
        ∃ mem', (∃ n', StoreAt w2 bs bl mem' n') ∧ Inv c mem' (p :: P) S ∧ Content c mem' p t ∧ (∀ q j, 1 ≤ q → q ≤ manyI c → 0 ≤ j → j ≤ 5 → q ≠ p → mget mem' (pPack c q j) = mget mem (pPack c q j)) ∧ Chg (MemB bs bl) w w2 := by
  refine (packPut_any w hs hm hcap hcell hadl hall ht (by omega)).mono ?_
  rintro e w1 ⟨b, bi, gt, rfl, hp, hb, hbi, hgt, hlt, hk⟩
  rw [List.take_of_length_le ht4] at hp
  refine ⟨b, rfl, ?_⟩
  obtain ⟨mem', j, x, e1, hi', hc', hf'⟩ := seqPut hg hi ht ht4
  refine (whole11_any w1 hg hp (hs.kept hk) (hm.kept hk hB) (Nat.le_trans hB hk.size) hlt ⟨fun _ => ⟨rfl, ht⟩, fun e => by cases e⟩ (by omega) (by omega) h3 h4).mono ?_
  rintro e2 w2 ⟨rfl, ⟨bi', n', hp2, _, hs2⟩, hc2⟩
  rw [show ((mem, putM t) : List Int × PM) = (mem, ⟨.spare, t, 0, 0, ⟨.popHead, 5, 0, 0, 0⟩⟩) from rfl] at e1
  rw [e1] at hp2 hs2 ⊢
  refine ⟨rfl, mem', ⟨n', hs2⟩, hi', hc', hf', ?_⟩
  exact (Chg.ofBelow (S := MemB bs bl) hk).thenNew hc2 (fun i hi e => by
    rcases e with e | e | e | e
    · omega
    · omega
    · exact .inl e
    · exact .inr e)

/-- A packet that was taken is run to its end. -/
theorem takeRun {c : Cfg} {bm bs bl B : Nat} {mem : List Int} {n : Int} (w : World) (hg : Good c) (hm : MapAt w B bm c) (hB : B ≤ w.heap.size) (h3 : B ≤ bs) (h4 : B ≤ bl) (hg0 : ∃ g, g < w.heap.size ∧ g ≠ bs ∧ g ≠ bl) (hs : StoreAt w bs bl mem n) {mem' : List Int} {p : Int} {x : SM} (e1 : pmRun c 14 (mem, takeM) = (mem', ⟨.done, [], 0, p, x⟩)) :
    Calls Try.prog 28 #[.pointer (some ⟨bm, 0, none⟩)] w fun e w1 => ∃ b, e = .returned (.pointer (some ⟨b, 0, none⟩)) ∧
      Calls Try.prog 17 #[.pointer (some ⟨b, 0, none⟩), .pointer (some ⟨bs, 0, none⟩)] w1 fun e2 w2 => e2 = .returned (.int .i64 p) ∧
        (∃ n', StoreAt w2 bs bl mem' n') ∧ Chg (MemB bs bl) w w2 := by
  obtain ⟨g, hgl, hg1, hg2⟩ := hg0
  refine (take_any w hs hm g hgl hg1 hg2).mono ?_
  rintro e w1 ⟨b, bi, rfl, hp, hb, hbi, hk⟩
  refine ⟨b, rfl, ?_⟩
  refine (whole11_any w1 hg hp (hs.kept hk) (hm.kept hk hB) (Nat.le_trans hB hk.size) (Nat.lt_of_lt_of_le hgl hk.size) ⟨fun e => (by cases e), fun e => by cases e⟩ (by omega) (by omega) h3 h4).mono ?_
  rintro e2 w2 ⟨rfl, ⟨bi', n', hp2, _, hs2⟩, hc2⟩
  rw [e1] at hp2 hs2 ⊢
  refine ⟨rfl, ⟨n', hs2⟩, ?_⟩
  exact (Chg.ofBelow (S := MemB bs bl) hk).thenNew hc2 (fun i hi e => by
    rcases e with e | e | e | e
    · omega
    · omega
    · exact .inl e
    · exact .inr e)

/-- A packet that was put back is run to its end. -/
theorem backRun {c : Cfg} {bm bs bl B : Nat} {q : Int} {mem : List Int} {n : Int} (w : World) (hg : Good c) (hm : MapAt w B bm c) (hB : B ≤ w.heap.size) (h3 : B ≤ bs) (h4 : B ≤ bl) (hg0 : ∃ g, g < w.heap.size ∧ g ≠ bs ∧ g ≠ bl) (hs : StoreAt w bs bl mem n) (hq : 1 ≤ q ∧ q ≤ manyI c) {mem' : List Int} {p : Int} {x : SM} (e1 : pmRun c 14 (mem, backM q) = (mem', ⟨.done, [], 0, p, x⟩)) :
    Calls Try.prog 27 #[.pointer (some ⟨bm, 0, none⟩), .int .i64 q] w fun e w1 => ∃ b, e = .returned (.pointer (some ⟨b, 0, none⟩)) ∧ Kept w w1 ∧
      Calls Try.prog 17 #[.pointer (some ⟨b, 0, none⟩), .pointer (some ⟨bs, 0, none⟩)] w1 fun e2 w2 => e2 = .returned (.int .i64 p) ∧
        (∃ n', StoreAt w2 bs bl mem' n') ∧ Chg (MemB bs bl) w w2 := by
  obtain ⟨g, hgl, hg1, hg2⟩ := hg0
  refine (back_yes q w hg hs hm hB g hgl hg1 hg2 hq.1 hq.2).mono ?_
  rintro e w1 ⟨b, bi, rfl, hp, hb, hbi, hk⟩
  refine ⟨b, rfl, hk, ?_⟩
  refine (whole11_any w1 hg hp (hs.kept hk) (hm.kept hk hB) (Nat.le_trans hB hk.size) (Nat.lt_of_lt_of_le hgl hk.size) ⟨fun e => (by cases e), fun e => by cases e⟩ (by omega) (by omega) h3 h4).mono ?_
  rintro e2 w2 ⟨rfl, ⟨bi', n', hp2, _, hs2⟩, hc2⟩
  rw [e1] at hp2 hs2 ⊢
  refine ⟨rfl, ⟨n', hs2⟩, ?_⟩
  exact (Chg.ofBelow (S := MemB bs bl) hk).thenNew hc2 (fun i hi e => by
    rcases e with e | e | e | e
    · omega
    · omega
    · exact .inl e
    · exact .inr e)

theorem wrap64_small {x : Int} (h0 : 0 ≤ x) (h1 : x ≤ 2000) : wrap64 x = x := by unfold wrap64; omega
theorem u64_small {x : Int} (h0 : 0 ≤ x) (h1 : x ≤ 4) : IntKind.u64.wrap x = x := by rw [IntKind.wrap_u64]; omega

theorem own_cap {w : World} {base : Nat} {e : TypeId} {ao : Option Addr} {n cap : Nat} {xs : List Value} (h : w.ownsRow base e 1 (.slice ao n cap) n xs) : n ≤ cap := by
  rcases h.2 with ⟨h0, h1⟩ | ⟨g, cap', cur, hv, _, _, h1, _⟩
  · omega
  · simp at hv; omega

theorem addr_add0 (g i : Nat) : (⟨g, 0, none⟩ : Addr).add i = ⟨g, i, none⟩ := by unfold Addr.add; split <;> simp_all

theorem info_row : (Try.prog.info? 25).map (fun i => (i.zero, i.size, i.bytes)) = some (some (.slice none 0 0), 1, 24) := by kernel_rfl

theorem ownsRow_ne {w : World} {base : Nat} {e t : TypeId} {size : Nat} {v : Value} {n : Nat} {xs l : List Value} {b : Nat} (h : w.ownsRow base e size v n xs) (hb : Blk w b t l) (hn : e ≠ t) : v.ownBlock ≠ some b := by
  intro hv
  rcases h.2 with ⟨rfl, _⟩ | ⟨g, cap, cur, rfl, _, hh, _⟩
  · cases hv
  · simp [Value.ownBlock] at hv
    subst hv
    unfold Blk at hb
    rw [hb] at hh
    simp at hh
    exact hn hh.2.symm

theorem qrow_ne {w : World} {base base' : Nat} {e t : TypeId} {size : Nat} {v v' : Value} {n : Nat} {xs ys : List Value} (h : w.ownsRow base e size v n xs) (hq : QRow w base' t v' ys) (hn : e ≠ t) : ∀ g, v'.ownBlock = some g → ¬ v.ownBlock = some g := by
  intro g hg hv
  rcases h.2 with ⟨rfl, _⟩ | ⟨g', cap, cur, rfl, _, hh, _⟩
  · cases hv
  · rcases hq with ⟨rfl, _⟩ | ⟨g2, off, cap2, cur2, rfl, _, hh2, _⟩
    · cases hg
    · simp [Value.ownBlock] at hv hg
      subst hv; subst hg
      rw [hh] at hh2
      simp at hh2
      exact hn hh2.2

theorem rows_last {w : World} {base : Nat} {e : TypeId} {al : Option Addr} {n cl m : Nat} {xs : List Value} {x : Value} (h : w.ownsRow base e 1 (.slice al n cl) n (xs ++ [x])) (hm : xs.length = m) :
    ∃ gl, al = some ⟨gl, 0, none⟩ ∧ w.cell? ⟨gl, m, none⟩ = some x ∧ (m : Int) + 1 ≤ cl ∧ (m : Int) ≤ cl ∧ ¬ cl = 0 ∧ w.ownsRow base e 1 (.slice (some ⟨gl, 0, none⟩) m cl) m xs := by
  subst hm
  have hn : n = xs.length + 1 := by have := h.1; simp at this; omega
  subst hn
  have hc := own_cap h
  obtain ⟨gl, rfl, hcl⟩ := own_cell h (k := xs.length) (by simp)
  exact ⟨gl, rfl, by simpa using hcl, by omega, by omega, by omega, ownsRow_pop h⟩

theorem queue_ne {w : World} {base : Nat} {e t : TypeId} {v : Value} {xs l : List Value} {b : Nat} (h : QRow w base e v xs) (hb : Blk w b t l) (hn : e ≠ t) : ¬ v.ownBlock = some b := by
  intro hv
  rcases h with ⟨rfl, _⟩ | ⟨g, off, cap, cur, rfl, _, hh, _⟩
  · cases hv
  · simp [Value.ownBlock] at hv
    subst hv
    unfold Blk at hb
    rw [hb] at hh
    simp at hh
    exact hn hh.2.symm

theorem last_nums {m m1 : Nat} (h : m1 = m + 1) (hm : (m : Int) ≤ 2000) : IntKind.i64.wrap ((m1 : Int) - 1) = (m : Int) ∧ wrap64 ((m1 : Int) - 1) = (m : Int) ∧ (0 : Int) ≤ m ∧ (m : Int) < m1 ∧ ((m1 : Int) == 0) = false ∧ (0 : Int) ≤ m1 := by
  subst h
  have e : (((m + 1 : Nat) : Int) - 1) = (m : Int) := by omega
  rw [e]
  exact ⟨IntWalk.i64_in _ (by omega), wrap64_small (by omega) hm, by omega, by omega, by simp; omega, by omega⟩

theorem Al.free {c : Cfg} {bm B bs bl base : Nat} {w : World} {vl vo : Value} {LT : List (Int × List Int × Nat)} {O S mem : List Int} (h : Al c bm B bs bl base w vl vo LT O S mem) : ∃ g, g < w.heap.size ∧ g ≠ bs ∧ g ≠ bl := by
  have h1 := h.map.cells.1
  obtain ⟨l1, l2, l3, l4, l5, l6⟩ := h.lay
  exact ⟨bm, h.map.lt, by omega, by omega⟩

theorem Al.last {c : Cfg} {bm B bs bl base : Nat} {w : World} {vl vo : Value} {LT0 : List (Int × List Int × Nat)} {p : Int} {T : List Int} {g : Nat} {O S mem : List Int} (h : Al c bm B bs bl base w vl vo (LT0 ++ [(p, T, g)]) O S mem) (hm : manyI c ≤ 2000 := by assumption) :
    (1 ≤ p ∧ p ≤ manyI c ∧ (p == 0) = false ∧ ¬ p < 1) ∧ Content c mem p T ∧ (0 < T.length ∧ T.length ≤ 4 ∧ (0 : Int) ≤ T.length ∧ (T.length : Int) ≤ 4 ∧ IntKind.u64.wrap (T.length : Int) = T.length) ∧
      Inv c mem (p :: (LT0.map (·.1)).reverse) S ∧ ((0 : Int) ≤ LT0.length ∧ (LT0.length : Int) ≤ 2000 ∧ wrap64 (LT0.length : Int) = LT0.length ∧ ((LT0.length : Int) + 1 == 0) = false) := by
  have hi : Inv c mem (p :: (LT0.map (·.1)).reverse) S := by simpa using h.inv
  obtain ⟨hp1, hp2⟩ := hi.rng p (by simp)
  obtain ⟨h1, h2, h3⟩ := h.cont (p, T, g) (by simp)
  have hc := h.cnt
  simp at hc
  have h2' : 0 < T.length := h2
  have h3' : T.length ≤ 4 := h3
  have hl : (LT0.length : Int) ≤ 2000 := by omega
  exact ⟨⟨hp1, hp2, by simp; omega, by omega⟩, h1, ⟨h2', h3', by omega, by omega, u64_small (by omega) (by omega)⟩, hi, ⟨by omega, hl, wrap64_small (by omega) hl, by simp; omega⟩⟩

theorem Al.taken {c : Cfg} {bm B bs bl base : Nat} {w w' : World} {vl vl' vo vo' : Value} {LT0 : List (Int × List Int × Nat)} {p : Int} {T : List Int} {g : Nat} {O S mem mem' : List Int} (h : Al c bm B bs bl base w vl vo (LT0 ++ [(p, T, g)]) O S mem)
    (hi : Inv c mem' (LT0.map (·.1)).reverse S) (hf : ∀ q j, 1 ≤ q → q ≤ manyI c → 0 ≤ j → j ≤ 5 → mget mem' (pPack c q j) = mget mem (pPack c q j)) (hmap : MapAt w' B bm c) (hbase : base ≤ w'.heap.size) (hs : ∃ n, StoreAt w' bs bl mem' n)
    (hb : ∀ e ∈ LT0, base ≤ e.2.2 ∧ ∃ rest, Blk w' e.2.2 39 (e.2.1.map (Value.int .u64) ++ rest))
    (hl : w'.ownsRow base 25 1 vl' LT0.length (LT0.map fun e => .slice (some ⟨e.2.2, 0, none⟩) e.2.1.length 4)) (ho : QRow w' base 3 vo' ((O ++ [p]).map (Value.int .i64))) : Al c bm B bs bl base w' vl' vo' LT0 (O ++ [p]) S mem' := by
  obtain ⟨l1, l2, l3, l4, l5, l6⟩ := h.lay
  have h1 : Inv c mem (p :: (LT0.map (·.1)).reverse) S := by simpa using h.inv
  have hn : p ∉ LT0.map (·.1) ∧ p ∉ S := by
    have := h1.nd
    rw [List.cons_append, List.nodup_cons] at this
    simpa using this.1
  have hpO : p ∉ O := fun hp => (h.nd p hp).1 (by simp)
  refine ⟨hmap, ⟨l1, l2, l3, l4, l5, hbase⟩, hs, hi, ?_, ?_, ?_, ?_, ?_, hb, hl, ho⟩
  · intro q hq
    rcases List.mem_append.1 hq with hq | hq
    · have := h.nd q hq
      exact ⟨fun e => this.1 (by rw [List.map_append]; exact List.mem_append.2 (.inl e)), this.2⟩
    · simp at hq; subst hq; exact hn
  · rw [List.nodup_append]
    refine ⟨h.ond, by simp, fun a ha b hb e => ?_⟩
    simp at hb; subst hb; subst e; exact hpO ha
  · intro q hq
    rcases List.mem_append.1 hq with hq | hq
    · exact h.rng q hq
    · simp at hq; subst hq; exact h1.rng q (by simp)
  · have := h.cnt; simp at this ⊢; omega
  · intro e he
    obtain ⟨k1, k2, k3⟩ := h.cont e (by simp [he])
    have hr := h.inv.rng e.1 (List.mem_append.2 (.inl (by rw [List.mem_reverse, List.mem_map]; exact ⟨e, by simp [he], rfl⟩)))
    exact ⟨k1.frame k3 (fun j j0 j1 _ => hf e.1 j hr.1 hr.2 j0 j1), k2, k3⟩

theorem Al.back {c : Cfg} {bm B bs bl base : Nat} {w w' : World} {vl vl' vo vo' : Value} {LT : List (Int × List Int × Nat)} {q : Int} {O' S mem mem' : List Int} (h : Al c bm B bs bl base w vl vo LT (q :: O') S mem)
    (hi : Inv c mem' (LT.map (·.1)).reverse (q :: S)) (hf : ∀ p j, 1 ≤ p → p ≤ manyI c → 0 ≤ j → j ≤ 5 → j ≠ 1 → mget mem' (pPack c p j) = mget mem (pPack c p j)) (hmap : MapAt w' B bm c) (hbase : base ≤ w'.heap.size) (hs : ∃ n, StoreAt w' bs bl mem' n)
    (hb : ∀ e ∈ LT, base ≤ e.2.2 ∧ ∃ rest, Blk w' e.2.2 39 (e.2.1.map (Value.int .u64) ++ rest))
    (hl : w'.ownsRow base 25 1 vl' LT.length (LT.map fun e => .slice (some ⟨e.2.2, 0, none⟩) e.2.1.length 4)) (ho : QRow w' base 3 vo' (O'.map (Value.int .i64))) : Al c bm B bs bl base w' vl' vo' LT O' (q :: S) mem' := by
  obtain ⟨l1, l2, l3, l4, l5, l6⟩ := h.lay
  have hno := h.ond
  rw [List.nodup_cons] at hno
  refine ⟨hmap, ⟨l1, l2, l3, l4, l5, hbase⟩, hs, hi, ?_, hno.2, fun p hp => h.rng p (by simp [hp]), ?_, ?_, hb, hl, ho⟩
  · intro p hp
    have := h.nd p (by simp [hp])
    refine ⟨this.1, fun e => ?_⟩
    rcases List.mem_cons.1 e with e | e
    · subst e; exact hno.1 hp
    · exact this.2 e
  · have := h.cnt; simp at this ⊢; omega
  · intro e he
    obtain ⟨k1, k2, k3⟩ := h.cont e he
    have hr := h.inv.rng e.1 (List.mem_append.2 (.inl (by rw [List.mem_reverse, List.mem_map]; exact ⟨e, he, rfl⟩)))
    exact ⟨k1.frame k3 (fun j j0 j1 j2 => hf e.1 j hr.1 hr.2 j0 j1 j2), k2, k3⟩

theorem u8s_len {w : World} {v : Value} {xs : List Value} (h : Reads w v xs) (W : World) : (Builtin.len_ #[53] 3 #[v]).run Try.prog W = .ok (.int .i64 xs.length) W := by
  obtain ⟨rfl, rfl⟩ | ⟨ad, cap, rfl, h2, h3, h4⟩ := h <;> kernel_rfl

set_option maxRecDepth 8000 in
set_option maxHeartbeats 3200000 in
theorem alone11_any (c : Cfg) (v : Value) (zs : List Int) (w : World) (hv : Reads w v (zs.map (Value.int .u8))) (hz : ∀ z ∈ zs, 0 ≤ z ∧ z ≤ 255) :
    Calls Try.prog 4 #[.agg #[.int .i64 c.c0, .int .i64 c.c1, .int .i64 c.c2, .int .i64 c.c3, .int .i64 c.c4, .int .i64 c.mks, .int .i64 c.mus, .int .i64 c.dq, .int .i64 c.ch, .int .i64 c.bu, .int .i64 c.ro, .int .i64 c.sw], v] w fun e w' => e = .returned (.bool true) ∧ Kept w w' := by
  obtain ⟨i1, hi1, hz10, hz11, hz12⟩ := info_parts info_row
  obtain ⟨i0, hi0, hz00, hz01, hz02⟩ := info_parts info_int
  have HVr : Hid (Reads w v (zs.map (Value.int .u8))) := hv
  have hb := Blk.new w 24 [.int .i64 c.c0, .int .i64 c.c1, .int .i64 c.c2, .int .i64 c.c3, .int .i64 c.c4, .int .i64 c.mks, .int .i64 c.mus, .int .i64 c.dq, .int .i64 c.ch, .int .i64 c.bu, .int .i64 c.ro, .int .i64 c.sw]
  have hk0 : Kept w (w.alloc (.cells ([.int .i64 c.c0, .int .i64 c.c1, .int .i64 c.c2, .int .i64 c.c3, .int .i64 c.c4, .int .i64 c.mks, .int .i64 c.mus, .int .i64 c.dq, .int .i64 c.ch, .int .i64 c.bu, .int .i64 c.ro, .int .i64 c.sw] : List Value).toArray 24)) := (Below.refl _ _).alloc (Nat.le_refl _) _
  go_enter Try.func4, Try.ntmps4
  go_wp2_with fail
  generalize w.alloc (.cells ([.int .i64 c.c0, .int .i64 c.c1, .int .i64 c.c2, .int .i64 c.c3, .int .i64 c.c4, .int .i64 c.mks, .int .i64 c.mus, .int .i64 c.dq, .int .i64 c.ch, .int .i64 c.bu, .int .i64 c.ro, .int .i64 c.sw] : List Value).toArray 24) = w0 at *
  refine (awake11_any w0).mono ?_; rintro e w1 ⟨rfl, hk1⟩
  have hb1 := hk1.blk hb
  have hK1 : Kept w w1 := hk0.trans' hk1
  have hl1 := hv.kept hK1
  clear hb hk0 hk1 hv
  have c0 := hb1.cell 0
  have c1 := hb1.cell 1
  have c2 := hb1.cell 2
  have c3 := hb1.cell 3
  have c4 := hb1.cell 4
  have c5 := hb1.cell 5
  have c6 := hb1.cell 6
  have c7 := hb1.cell 7
  have c8 := hb1.cell 8
  have c9 := hb1.cell 9
  have c10 := hb1.cell 10
  have c11 := hb1.cell 11
  simp only [List.getElem?_cons_zero, List.getElem?_cons_succ] at c0 c1 c2 c3 c4 c5 c6 c7 c8 c9 c10 c11
  go_wp2_with fail
  refine (small11_any c w1).mono ?_; rintro e w2 ⟨⟨sv, rfl, hsv⟩, hk2⟩
  have HV : Hid (sv = true → Good c ∧ Small c) := hsv
  have hlen := u8s_len hl1
  rw [List.length_map] at hlen
  have hl2 := hl1.kept hk2
  have hb2 := hk2.blk hb1
  have hK2 : Kept w w2 := hK1.trans' hk2
  clear hsv hk2 hb1 hK1 hl1 c0 c1 c2 c3 c4 c5 c6 c7 c8 c9 c10 c11
  cases sv
  · go_wp2_with fail
    go_ret
    exact ⟨rfl, hK2⟩
  have hg := (HV.out rfl).1
  have hmb := manyI_bound hg
  obtain ⟨hmb0, hmb1⟩ := hmb
  clear HV
  by_cases h60 : (zs.length : Int) > 60
  · go_wp2_with fail
    go_ret
    exact ⟨rfl, hK2⟩
  have c0 := hb2.cell 0
  have c1 := hb2.cell 1
  have c2 := hb2.cell 2
  have c3 := hb2.cell 3
  have c4 := hb2.cell 4
  have c5 := hb2.cell 5
  have c6 := hb2.cell 6
  have c7 := hb2.cell 7
  have c8 := hb2.cell 8
  have c9 := hb2.cell 9
  have c10 := hb2.cell 10
  have c11 := hb2.cell 11
  simp only [List.getElem?_cons_zero, List.getElem?_cons_succ] at c0 c1 c2 c3 c4 c5 c6 c7 c8 c9 c10 c11
  have Hg : Hid (Good c) := hg
  clear hg
  go_wp2_with fail
  have hg := Hg.out
  refine (new_good c w2 hg).mono ?_; rintro e w3 ⟨bm, rfl, hm3, hk3⟩
  have hK3 : Kept w w3 := hK2.trans' hk3
  have hl3 := hl2.kept hk3
  clear c0 c1 c2 c3 c4 c5 c6 c7 c8 c9 c10 c11 hb2 hk3 hK2 hl2 hg
  go_wp2_with fail
  refine (first_any w3 hm3 Hg.out (Nat.le_refl _)).mono ?_; rintro e w4 ⟨v4, rfl, hr4, hk4⟩
  obtain ⟨fl0, fl1, fall⟩ := first_facts Hg.out
  go_wp2_with fail
  refine (new_any w4 hr4 fl0 fl1 fall).mono ?_; rintro e w5 ⟨bs, bl, rfl, hs5, hbs, hbl, hk5⟩
  have hm5 := (hm3.kept hk4 (Nat.le_refl _)).kept hk5 hk4.size
  have hK5 : Kept w w5 := (hK3.trans' hk4).trans' hk5
  have hl5 := (hl3.kept hk4).kept hk5
  have hs5l := hs5.lt
  have z34 : w3.heap.size ≤ w4.heap.size := hk4.size
  have z45 : w4.heap.size ≤ w5.heap.size := hk5.size
  have hAl : Al c bm w3.heap.size bs bl w5.heap.size w5 (.slice none 0 0) (.slice none 0 0) [] [] (upL 1 (manyI c).toNat) (firstL c) :=
    ⟨hm5, by omega, ⟨0, hs5⟩, seqFirst Hg.out, (fun p hp => by cases hp), List.nodup_nil, (fun p hp => by cases hp), by simp [upL_len]; omega, (fun e he => by cases he), (fun e he => by cases he), World.ownsRow_nil _ _ _ _, QRow.nil _ _ _⟩
  have z3w : w.heap.size ≤ w3.heap.size := hK3.size
  clear hm3 hr4 hk4 hk5 hK3 hl3 fl0 fl1 fall hm5 hs5
  go_wp2_with fail
  go_loopg [10, 11, 12] zs.length (fun gk vl vo iv wr => ∃ (k : Nat) (LT : List (Int × List Int × Nat)) (O S mem : List Int), k ≤ zs.length ∧ gk = zs.length - k ∧ iv = .int .i64 k ∧ Al c bm w3.heap.size bs bl w5.heap.size wr vl vo LT O S mem ∧ Chg (MemB bs bl) w5 wr)
  case atStart => exact ⟨0, [], [], _, _, by omega, by omega, rfl, hAl, Chg.refl _ _⟩
  case round =>
    clear hAl
    obtain ⟨k, LT, O, S, mem, hk, rfl, rfl, hA, hc⟩ := hrel
    have hKr : Kept w wr := hK5.trans (hc.toBelow hK5.size (fun i hi e => by rcases e with e | e <;> omega))
    by_cases hlt : k < zs.length
    · have hcell := (HVr.out.kept hKr).get (i := k) (by simpa using hlt)
      obtain ⟨ad, cap, rfl, hcap, hck⟩ := hcell
      rw [List.getElem?_map, List.getElem?_eq_getElem hlt, Option.map_some] at hck
      have hzk := hz zs[k] (List.getElem_mem _)
      obtain ⟨hzk0, hzk1⟩ := hzk
      generalize zs[k] = z at *
      have hlt' : (k : Int) < zs.length := by omega
      have h60' : (k : Int) < 60 := by omega
      rw [List.length_map] at *
      obtain ⟨al, cl, hvl⟩ := own_slice hA.lrow
      obtain ⟨ao, co, hvo⟩ := hA.orow.form
      subst hvl
      subst hvo
      have hcnt := hA.cnt
      have hL1 : (LT.length : Int) ≤ 2000 := by omega
      have hO1 : (O.length : Int) ≤ 2000 := by omega
      have hL0 : (0 : Int) ≤ LT.length := by omega
      have hO0 : (0 : Int) ≤ O.length := by omega
      have hk0 : (0 : Int) ≤ k := by omega
      replace hcnt : Hid _ := hcnt
      have xw : IntKind.i64.wrap ((LT.length : Int) + (O.length : Int)) = (LT.length : Int) + (O.length : Int) := IntWalk.i64_in _ (by omega)
      by_cases h0 : z % 3 = 0
      · go_wp2_with fail
        refine (mPackets_any wr hA.map).mono ?_; rintro e wx ⟨rfl, rfl⟩
        by_cases hN : ((LT.length : Int) + (O.length : Int)) < manyI c
        · skip
          obtain ⟨p, S', rfl⟩ : ∃ p S', S = p :: S' := by
            cases S with
            | nil => have := hA.cnt; simp at this; omega
            | cons p S' => exact ⟨p, S', rfl⟩
          have hck2 : (wr.alloc (.cells #[.int .u64 ((k : Int) * 10), .int .u64 ((k : Int) * 10 + 1), .int .u64 ((k : Int) * 10 + 2), .int .u64 ((k : Int) * 10 + 3)] 39)).cell? (ad.add k) = some (.int .u8 z) := (cell_alloc_far wr _ (lt_of_cell hck)).trans hck
          obtain ⟨nn, hnn⟩ : ∃ nn : Nat, z / 3 % 4 + 1 = nn := ⟨(z / 3 % 4 + 1).toNat, by omega⟩
          have hn1 : 1 ≤ nn := by omega
          have hn4 : nn ≤ 4 := by omega
          have hn1' : (0 : Int) ≤ nn := by omega
          have hn4' : (nn : Int) ≤ 4 := by omega
          obtain ⟨T, hT⟩ : ∃ T : List Int, T = ([(k : Int) * 10, (k : Int) * 10 + 1, (k : Int) * 10 + 2, (k : Int) * 10 + 3]).take nn := ⟨_, rfl⟩
          have hTl : T.length = nn := by rw [hT]; simp; omega
          have hTU : ∀ x ∈ T, U x := fun x hx => by
            rw [hT] at hx
            have := List.mem_of_mem_take hx
            simp at this
            unfold U; omega
          have hba : Blk (wr.alloc (.cells #[.int .u64 ((k : Int) * 10), .int .u64 ((k : Int) * 10 + 1), .int .u64 ((k : Int) * 10 + 2), .int .u64 ((k : Int) * 10 + 3)] 39)) wr.heap.size 39 (([(k : Int) * 10, (k : Int) * 10 + 1, (k : Int) * 10 + 2, (k : Int) * 10 + 3]).map (Value.int .u64)) := Blk.new _ _ _
          have hcT : ∀ i u, (T.map (Value.int .u64))[i]? = some u → (wr.alloc (.cells #[.int .u64 ((k : Int) * 10), .int .u64 ((k : Int) * 10 + 1), .int .u64 ((k : Int) * 10 + 2), .int .u64 ((k : Int) * 10 + 3)] 39)).cell? ((⟨wr.heap.size, 0, none⟩ : Addr).add i) = some u := fun i u hu => by
            rw [addr_add0, hba.cell i]
            rw [hT, List.map_take, List.getElem?_take] at hu
            split at hu
            · exact hu
            · cases hu
          have hbT : ∃ rest, Blk (wr.alloc (.cells #[.int .u64 ((k : Int) * 10), .int .u64 ((k : Int) * 10 + 1), .int .u64 ((k : Int) * 10 + 2), .int .u64 ((k : Int) * 10 + 3)] 39)) wr.heap.size 39 (T.map (Value.int .u64) ++ rest) := ⟨(([(k : Int) * 10, (k : Int) * 10 + 1, (k : Int) * 10 + 2, (k : Int) * 10 + 3]).drop nn).map (Value.int .u64), by rw [← List.map_append, hT, List.take_append_drop]; exact hba⟩
          have hka : Kept wr (wr.alloc (.cells #[.int .u64 ((k : Int) * 10), .int .u64 ((k : Int) * 10 + 1), .int .u64 ((k : Int) * 10 + 2), .int .u64 ((k : Int) * 10 + 3)] 39)) := (Below.refl _ _).alloc (Nat.le_refl _) _
          obtain ⟨n0, hs0⟩ := hA.store
          obtain ⟨y1, y2, y3, y4, y5, y6⟩ := hA.lay
          have D := putRun (c := c) (t := T) (cap := 4) (ad := ⟨wr.heap.size, 0, none⟩) _ Hg.out (hA.map.kept hka (by omega)) (Nat.le_trans (by omega) hka.size) y1 y2 (hs0.kept hka) hA.inv (by omega) (by omega) (by omega) hcT hba.lt hTU
          rw [hTl] at D
          have hpr := hA.inv.rng p (by simp)
          have hpz : (p == 0) = false := by simp; omega
          clear hcT hba hT
          replace hTl : Hid _ := hTl
          go_wp2_with fail
          refine D.mono ?_; rintro e w7 ⟨b, rfl, D2⟩
          clear D
          go_wp2_with fail
          refine D2.mono ?_; rintro e w8 ⟨rfl, mem', ⟨n', hs8⟩, hi8, hc8, hf8, hch⟩
          have hcw : Chg (MemB bs bl) wr w8 := ((Chg.refl _ wr).alloc _).trans hch
          obtain ⟨map8, base8, blk8, lrow8, orow8⟩ := hA.keep hcw
          have hbT8 : ∃ rest, Blk w8 wr.heap.size 39 (T.map (Value.int .u64) ++ rest) := by
            obtain ⟨rest, h⟩ := hbT
            exact ⟨rest, hch.blk h (fun e => by rcases e with e | e <;> omega)⟩
          clear D2 hch hka hbT hck2 hs0
          have HI8 : Hid _ := hi8
          have HC8 : Hid _ := hc8
          have HF8 : Hid _ := hf8
          clear hi8 hc8 hf8
          go_wp2_with (at_builtin; refine wpList_append_lies _ rfl _ _ 54 rfl w5.heap.size 25 i1 (.slice none 0 0) 1 24 Try.underlying54 hi1 hz10 hz11 hz12 rfl (by decide) _ _ _ rfl (lrow8.alloc _) ⟨w8.heap.size, 0, none⟩ 1 1 [.slice (some ⟨wr.heap.size, 0, none⟩) nn 4] rfl rfl ?_ ?_ (by omega) ?_ ?_ ?_ _ rfl ?_)
          all_goals first
            | (intro j u hj; match j, hj with | 0, hj => (simp at hj; subst hj; simp [Addr.add]; done))
            | (intro u hu; simp at hu; subst hu; rfl)
            | rfl
            | (unfold maxLen; omega)
            | omega
            | (simp; done)
            | (simp; omega)
            | skip
          intro gb cp w9 own9 hgrow _ _
          have hrow : ∀ q, Value.ownBlock (.slice al LT.length cl) = some q → w5.heap.size ≤ q := fun q hq => (ownsRow_base lrow8 q hq).1
          have hc9 : Chg (MemB bs bl) w5 w9 := ((hc.trans hcw).alloc _).grown hgrow (fun q hq hl => by have := hrow q hq; omega)
          have hc89 : Chg (fun q => Value.ownBlock (.slice al LT.length cl) = some q) w8 w9 := ((Chg.refl _ w8).alloc _).grown hgrow (fun q hq _ => hq)
          have hs9 : StoreAt w9 bs bl mem' n' := hs8.chg hc89 (fun e => by have := hrow _ e; omega) (fun e => by have := hrow _ e; omega)
          have map9 : MapAt w9 w3.heap.size bm c := map8.below (B' := w3.heap.size) (hc89.toBelow (by omega) (fun i hi e => by have := hrow i e; omega)) (Nat.le_refl _)
          have blk9 : ∀ e ∈ LT, w5.heap.size ≤ e.2.2 ∧ ∃ rest, Blk w9 e.2.2 39 (e.2.1.map (Value.int .u64) ++ rest) := fun e he => by
            obtain ⟨h1, rest, h2⟩ := blk8 e he
            exact ⟨h1, rest, hc89.blk h2 (ownsRow_ne lrow8 h2 (by decide))⟩
          have hbT9 : ∃ rest, Blk w9 wr.heap.size 39 (T.map (Value.int .u64) ++ rest) := by
            obtain ⟨rest, h2⟩ := hbT8
            exact ⟨rest, hc89.blk h2 (ownsRow_ne lrow8 h2 (by decide))⟩
          have orow9 := orow8.chg hc89 (qrow_ne lrow8 orow8 (by decide))
          have base9 : w5.heap.size ≤ w9.heap.size := by have := hc89.size; omega
          clear hgrow lrow8 orow8 hc89 hrow hbT8 blk8 map8 hs8 hcw
          go_wp2_with fail
          go_roundg (zs.length - (k + 1))
          case measure => omega
          case rel =>
            have hnd := hA.inv.nd
            refine ⟨k + 1, LT ++ [(p, T, wr.heap.size)], O, S', mem', by omega, rfl, by go_num, ⟨map9, by omega, ⟨n', hs9⟩, by simpa using HI8.out, ?_, hA.ond, hA.rng, ?_, ?_, ?_, ?_, by simpa using orow9⟩, hc9⟩
            · intro q hq
              have := hA.nd q hq
              simp at this ⊢
              exact ⟨⟨this.1, this.2.1⟩, this.2.2⟩
            · have := hA.cnt; simp at this ⊢; omega
            · intro e he
              rcases List.mem_append.1 he with he | he
              · obtain ⟨h1, h2, h3⟩ := hA.cont e he
                have hm : e.1 ∈ (LT.map (·.1)).reverse := by simp; exact ⟨_, _, he⟩
                have hr := hA.inv.rng e.1 (by simp at hm ⊢; exact .inl hm)
                have hne : e.1 ≠ p := fun h => by
                  rw [List.nodup_append] at hnd
                  exact hnd.2.2 _ hm _ (by simp) h
                exact ⟨h1.frame h3 (fun j j0 j1 _ => HF8.out e.1 j hr.1 hr.2 j0 j1 hne), h2, h3⟩
              · simp at he; subst he
                exact ⟨HC8.out, by show 0 < T.length; rw [hTl.out]; omega, by show T.length ≤ 4; rw [hTl.out]; exact hn4⟩
            · intro e he
              rcases List.mem_append.1 he with he | he
              · exact blk9 e he
              · simp at he; subst he
                exact ⟨y6, hbT9⟩
            · simpa [hTl.out] using own9

        · have hN' : manyI c ≤ (LT.length : Int) + (O.length : Int) := by omega
          clear hN
          go_wp2_with fail
          obtain ⟨n0, hs0⟩ := hA.store
          obtain ⟨y1, y2, y3, y4, y5, y6⟩ := hA.lay
          have hfree : ∃ g, g < wr.heap.size ∧ g ≠ bs ∧ g ≠ bl := hA.free
          rcases List.eq_nil_or_concat LT with hLT | ⟨LT0, en, hLT⟩
          · subst hLT
            obtain ⟨x, e1⟩ := seqTake0 (c := c) (mem := mem) (S := S) (by simpa using hA.inv)
            have D := takeRun wr Hg.out hA.map (Nat.le_trans y5 y6) y1 y2 hfree hs0 e1
            clear e1 hfree hs0
            refine D.mono ?_; rintro e w7 ⟨b, rfl, D2⟩
            clear D
            go_wp2_with fail
            refine D2.mono ?_; rintro e w8 ⟨rfl, ⟨n', hs8⟩, hch⟩
            obtain ⟨map8, base8, blk8, lrow8, orow8⟩ := hA.keep hch
            go_wp2_with fail
            go_roundg (zs.length - (k + 1))
            case measure => omega
            case rel => exact ⟨k + 1, [], O, S, mem, hlt, rfl, by go_num, ⟨map8, ⟨y1, y2, y3, y4, y5, base8⟩, ⟨n', hs8⟩, hA.inv, hA.nd, hA.ond, hA.rng, hA.cnt, hA.cont, blk8, lrow8, by simpa using orow8⟩, hc.trans hch⟩
          · obtain ⟨p, T, g⟩ := en
            rw [List.concat_eq_append] at hLT
            subst hLT
            obtain ⟨⟨hp1, hp2, hpz, hpl⟩, hcon, ⟨hT1, hT4, hT0, hT4', xT⟩, hi', ⟨hll0, hll1, xw2, hlz⟩⟩ := hA.last
            obtain ⟨mem', x, e1, hi2, hf2⟩ := seqTake Hg.out hi'
            have D := takeRun wr Hg.out hA.map (Nat.le_trans y5 y6) y1 y2 hfree hs0 e1
            have HCON : Hid (Content c mem' p T) := hcon.frame hT4 (fun j j0 j1 _ => hf2 p j hp1 hp2 j0 j1)
            have HI2 : Hid _ := hi2
            have HF2 : Hid _ := hf2
            obtain ⟨m, hm⟩ : ∃ m : Nat, m = LT0.length := ⟨_, rfl⟩
            obtain ⟨m1, hm1⟩ : ∃ m1 : Nat, m1 = (LT0 ++ [(p, T, g)]).length := ⟨_, rfl⟩
            obtain ⟨xs1, xs2, xm0, xm1, hlz1, xm2⟩ := last_nums (m := m) (m1 := m1) (by rw [hm1, hm]; exact List.length_append) (by rw [hm]; exact hll1)
            rw [← hm1]
            have HM : Hid (m = LT0.length) := hm
            have HcntA : Hid _ := hcnt
            clear hll0 hll1 xw2 hlz hm hm1 hi' hi2 hf2 hcon hcnt xw hL1 hL0 hO0 hO1 e1 hfree hs0
            refine D.mono ?_; rintro e w7 ⟨b, rfl, D2⟩
            clear D
            go_wp2_with fail
            refine D2.mono ?_; rintro e w8 ⟨rfl, ⟨n', hs8⟩, hch⟩
            clear D2
            obtain ⟨map8, base8, blk8, lrow8, orow8⟩ := hA.keep hch
            simp only [List.map_append, List.map_cons, List.map_nil] at lrow8
            obtain ⟨gl, hal, hcl, hcap', hcap2, hcapn, lpop8⟩ := rows_last lrow8 (m := m) (by rw [HM.out]; simp)
            subst hal
            clear lrow8 blk8 orow8
            go_wp2_with fail
            refine (mPackets_any w8 map8).mono ?_; rintro e wx ⟨rfl, rfl⟩
            go_wp2_with fail
            refine (mMany_any p w8 map8 Hg.out).mono ?_; rintro e wx ⟨rfl, rfl⟩
            go_wp2_with fail
            refine (load_any (pPack c p 0) w8 hs8).mono ?_; rintro e w10 ⟨rfl, hs10, hc10⟩
            rw [HCON.out.1]
            have hch10 : Chg (MemB bs bl) wr w10 := hch.trans hc10.memB
            have HA : Hid _ := hA
            obtain ⟨map10, base10, blk10, _, orow10⟩ := hA.keep hch10
            have lpop10 := ownsRow_chg lpop8 hc10 (fun q hq e => by have := (ownsRow_base lpop8 q hq).1; omega)
            obtain ⟨hgb, rest, hgT⟩ := blk10 (p, T, g) (by simp)
            have hgbs : ¬ g = bs := by intro e; simp at hgb; omega
            have hc10w : Chg (MemB bs bl) w5 w10 := hc.trans hch10
            clear map8 base8 lpop8 hcl hch hs8 hc10 hch10 hgb hA
            go_wp2_with fail
            go_loopg [18] T.length (fun gj jv wq => ∃ (j : Nat) (n2 : Int), j ≤ T.length ∧ gj = T.length - j ∧ jv = .int .i64 j ∧ StoreAt wq bs bl mem' n2 ∧ Chg (fun i => i = bs) w10 wq)
            case atStart => exact ⟨0, _, Nat.zero_le _, by omega, rfl, hs10, Chg.refl _ _⟩
            case round =>
              clear hs10
              obtain ⟨j, n2, hj, rfl, rfl, hsq, hcq⟩ := hrel
              have hgq := hcq.blk hgT hgbs
              have mapq : MapAt wr w3.heap.size bm c := map10.below (hcq.toBelow (B := w3.heap.size) (Nat.le_trans y5 base10) (fun i hi e => by omega)) (Nat.le_refl _)
              by_cases hjT : j < T.length
              · have hgj := hgq.cell j
                rw [store_word hjT] at hgj
                have HJ : Hid (mget mem' (pTask c p j) = T[j]?.getD 0) := HCON.out.2 j hjT
                have hjT' : (j : Int) < T.length := by omega
                have hj0 : (0 : Int) ≤ j := by omega
                generalize T[j]?.getD 0 = tj at *
                go_wp2_with fail
                go_region_held3 (fun w' => w'.cell? ⟨g, j, none⟩ = some (.int .u64 tj)) (first | exact hgj | exact kj)
                  (first
                   | (go_at_call 31; refine (mTask_any p j _ mapq.drew Hg.out).mono ?_; rintro e w12 ⟨rfl, rfl⟩)
                   | (go_at_call 29; refine (load_any (pTask c p j) _ hsq.drew).mono ?_; rintro e w13 ⟨rfl, hs13, hc13⟩
                      rw [HJ.out]
                      have kj := (hc13.blk hgq.drew hgbs).cell j
                      rw [(hgq.cell j).symm.trans hgj] at kj))
                all_goals
                  go_wp2_with fail
                  go_roundg (T.length - (j + 1))
                  case measure => omega
                  case rel => exact ⟨j + 1, _, hjT, rfl, by go_num, hs13, hcq.trans (Chg.undrew (k := 1) hc13)⟩
              · obtain rfl : j = T.length := by omega
                have hbw : w5.heap.size ≤ wr.heap.size := Nat.le_trans base10 hcq.size
                have orowq : QRow wr w5.heap.size 3 (.slice ao O.length co) (O.map (Value.int .i64)) := by simpa using orow10.chg hcq (fun q hq e => by have := (orow10.base q hq).1; omega)
                have lpopq := ownsRow_chg lpop10 hcq (fun q hq e => by have := (ownsRow_base lpop10 q hq).1; omega)
                have orowa : QRow (wr.alloc (.cells #[.int .i64 p] 3)) w5.heap.size 3 (.slice ao O.length co) (O.map (Value.int .i64)) := orowq.chg ((Chg.refl (fun _ => False) wr).alloc _) (fun _ _ => id)
                have hO5 : O.length ≤ 2000 := by have := HcntA.out; omega
                obtain ⟨v', w', hr, hq', hgrow⟩ := run_append_queue (P := Try.prog) (wr.alloc (.cells #[.int .i64 p] 3)) w5.heap.size 55 55 3 i0 (.int .i64 0) 8 Try.underlying55 hi0 hz00 hz01 hz02 rfl _ _ orowa ⟨wr.heap.size, 0, none⟩ 1 (.int .i64 p) (World.news_of_block (cs := #[.int .i64 p]) (t := 3) (fr := (0, 0)) (heap_alloc_new wr _)) rfl (by simp; unfold maxLen; omega) (by simp; omega) (by simp; omega)
                have hrow : ∀ q, Value.ownBlock (.slice ao O.length co) = some q → w5.heap.size ≤ q := fun q hq => (orowq.base q hq).1
                have hcf : Chg (fun q => Value.ownBlock (.slice ao O.length co) = some q) wr w' := ((Chg.refl _ wr).alloc _).grown hgrow (fun q hq _ => hq)
                have hc9 : Chg (MemB bs bl) w5 w' := (hc10w.trans (hcq.memB)).thenNew hcf (fun i hi e => by have := hrow i e; omega)
                have hs9 : StoreAt w' bs bl mem' n2 := hsq.chg hcf (fun e => by have := hrow _ e; omega) (fun e => by have := hrow _ e; omega)
                have map9 : MapAt w' w3.heap.size bm c := mapq.below (B' := w3.heap.size) (hcf.toBelow (Nat.le_trans y5 hbw) (fun i hi e => by have := hrow i e; omega)) (Nat.le_refl _)
                have blk9 : ∀ e ∈ LT0, w5.heap.size ≤ e.2.2 ∧ ∃ rest, Blk w' e.2.2 39 (e.2.1.map (Value.int .u64) ++ rest) := fun e he => by
                  obtain ⟨h1, rest, h2⟩ := blk10 e (by simp [he])
                  exact ⟨h1, rest, hcf.blk (hcq.blk h2 (fun e => by omega)) (queue_ne orowq (hcq.blk h2 (fun e => by omega)) (by decide))⟩
                have lrow9 := ownsRow_chg lpopq hcf (fun q hq hv => qrow_ne lpopq orowq (by decide) q hv hq)
                have base9 : w5.heap.size ≤ w'.heap.size := Nat.le_trans hbw hcf.size
                clear hgrow hcf hrow orowa lpopq lpop10 orow10 mapq hsq hcq hgq hgT map10
                go_wp2_with (at_builtin; refine wpList_append_run rfl _ _ _ rfl _ _ rfl rfl v' w' hr ?_)
                go_roundg (zs.length - (k + 1))
                case measure => omega
                case rel => exact ⟨k + 1, LT0, O ++ [p], S, mem', hlt, rfl, by go_num, Al.taken HA.out HI2.out HF2.out map9 base9 ⟨n2, hs9⟩ blk9 (by rw [← HM.out]; exact lrow9) (by simpa using hq'), hc9⟩

      · by_cases h2 : z % 3 = 2
        · by_cases hO : (O.length : Int) > 0
          · skip
            obtain ⟨n0, hs0⟩ := hA.store
            obtain ⟨y1, y2, y3, y4, y5, y6⟩ := hA.lay
            have hfree : ∃ g, g < wr.heap.size ∧ g ≠ bs ∧ g ≠ bl := hA.free
            obtain ⟨q, O2, rfl⟩ : ∃ q O2, O = q :: O2 := by
              cases O with
              | nil => simp at hO
              | cons q O2 => exact ⟨q, O2, rfl⟩
            obtain ⟨go, off, cq, hvo, hcq, hq0, hq1⟩ := hA.orow.first
            simp at hvo
            obtain ⟨rfl, rfl⟩ := hvo
            have hqr := hA.rng q (by simp)
            have hqn : q ∉ (LT.map (·.1)).reverse ++ S := by have := hA.nd q (by simp); simpa using this
            obtain ⟨mem', x, e1, hi2, hf2⟩ := seqBack Hg.out hA.inv hqr hqn
            have D := backRun wr.drew Hg.out hA.map.drew (Nat.le_trans y5 y6) y1 y2 hfree hs0.drew hqr e1
            have HI2 : Hid _ := hi2
            have HF2 : Hid _ := hf2
            have hgo := (hA.orow.base go rfl)
            obtain ⟨hgo1, hgo2⟩ := hgo
            clear e1 hi2 hf2 hqn hfree hs0
            simp only [List.length_map] at hcq hq1
            obtain ⟨n1, hn1⟩ : ∃ n1 : Nat, n1 = (q :: O2).length := ⟨_, rfl⟩
            have hn1' : n1 = O2.length + 1 := by rw [hn1]; rfl
            have g1 : (0 : Int) < n1 := by omega
            have g2 : (1 : Int) ≤ n1 := by omega
            have g3 : (n1 : Int) ≤ co := by omega
            have g4 : (0 : Int) ≤ n1 := by omega
            have hqb : go ≠ bs ∧ go ≠ bl := by omega
            obtain ⟨hqb1, hqb2⟩ := hqb
            rw [show (List.map (Value.int .i64) (q :: O2)).length = n1 from by rw [List.length_map]; exact hn1.symm]
            have HN1 : Hid (n1 = O2.length + 1) := hn1'
            have HA : Hid _ := hA
            have HQ1 : Hid _ := hq1
            clear hn1 hn1' hO hO1 hO0 hcnt xw hL1 hL0 hcq hA hq1
            by_cases hco : co = 1
            · skip
              go_wp2_with fail
              go_region_held3 (fun w' => w'.cell? ⟨go, off, none⟩ = some (.int .i64 q)) (first | exact hq0 | exact q7 | exact q8)
                (first
                 | (go_at_call 27; refine D.mono ?_; rintro e w7 ⟨b, rfl, hk7, D2⟩
                    have q7 : w7.cell? ⟨go, off, none⟩ = some (.int .i64 q) := (Below.cell hk7 hgo2).trans hq0)
                 | (go_at_call 17; refine D2.mono ?_; rintro e w8 ⟨rfl, ⟨n', hs8⟩, hch⟩
                    have q8 : w8.cell? ⟨go, off, none⟩ = some (.int .i64 q) := (World.cell?_of_block (a := ⟨go, off, none⟩) (hch.block go hgo2 (fun e => e.elim hqb1 hqb2))).trans hq0))
              all_goals
                have hch2 : Chg (MemB bs bl) wr w8 := ((Chg.refl _ wr).drew).trans hch
                obtain ⟨map8, base8, blk8, lrow8, _⟩ := HA.out.keep hch2
                have hq9 : QRow wr w5.heap.size 3 (.slice (if co = 1 then some ⟨go, off, none⟩ else some ⟨go, off + 1, none⟩) O2.length (co - 1)) (O2.map (Value.int .i64)) := HQ1.out
                have hq8 := hq9.chg hch2 (fun i hi e => by
                  have := (hq9.base i hi).1
                  rcases e with e | e <;> omega)
                go_wp2_with fail
                go_roundg (zs.length - (k + 1))
                case measure => omega
                case rel => exact ⟨k + 1, LT, O2, q :: S, mem', hlt, rfl, by go_num, Al.back HA.out HI2.out HF2.out map8 base8 ⟨n', hs8⟩ blk8 lrow8 (by have e := HN1.out; subst e; simpa [hco] using hq8), hc.trans hch2⟩
            · skip
              go_wp2_with fail
              go_region_held3 (fun w' => w'.cell? ⟨go, off, none⟩ = some (.int .i64 q)) (first | exact hq0 | exact q7 | exact q8)
                (first
                 | (go_at_call 27; refine D.mono ?_; rintro e w7 ⟨b, rfl, hk7, D2⟩
                    have q7 : w7.cell? ⟨go, off, none⟩ = some (.int .i64 q) := (Below.cell hk7 hgo2).trans hq0)
                 | (go_at_call 17; refine D2.mono ?_; rintro e w8 ⟨rfl, ⟨n', hs8⟩, hch⟩
                    have q8 : w8.cell? ⟨go, off, none⟩ = some (.int .i64 q) := (World.cell?_of_block (a := ⟨go, off, none⟩) (hch.block go hgo2 (fun e => e.elim hqb1 hqb2))).trans hq0))
              all_goals
                have hch2 : Chg (MemB bs bl) wr w8 := ((Chg.refl _ wr).drew).trans hch
                obtain ⟨map8, base8, blk8, lrow8, _⟩ := HA.out.keep hch2
                have hq9 : QRow wr w5.heap.size 3 (.slice (if co = 1 then some ⟨go, off, none⟩ else some ⟨go, off + 1, none⟩) O2.length (co - 1)) (O2.map (Value.int .i64)) := HQ1.out
                have hq8 := hq9.chg hch2 (fun i hi e => by
                  have := (hq9.base i hi).1
                  rcases e with e | e <;> omega)
                go_wp2_with fail
                go_roundg (zs.length - (k + 1))
                case measure => omega
                case rel => exact ⟨k + 1, LT, O2, q :: S, mem', hlt, rfl, by go_num, Al.back HA.out HI2.out HF2.out map8 base8 ⟨n', hs8⟩ blk8 lrow8 (by have e := HN1.out; subst e; simpa [hco] using hq8), hc.trans hch2⟩

          · have hO' : (O.length : Int) = 0 := by omega
            clear hO
            go_wp2_with fail
            obtain ⟨n0, hs0⟩ := hA.store
            obtain ⟨y1, y2, y3, y4, y5, y6⟩ := hA.lay
            have hfree : ∃ g, g < wr.heap.size ∧ g ≠ bs ∧ g ≠ bl := hA.free
            rcases List.eq_nil_or_concat LT with hLT | ⟨LT0, en, hLT⟩
            · subst hLT
              obtain ⟨x, e1⟩ := seqTake0 (c := c) (mem := mem) (S := S) (by simpa using hA.inv)
              have D := takeRun wr Hg.out hA.map (Nat.le_trans y5 y6) y1 y2 hfree hs0 e1
              clear e1 hfree hs0
              refine D.mono ?_; rintro e w7 ⟨b, rfl, D2⟩
              clear D
              go_wp2_with fail
              refine D2.mono ?_; rintro e w8 ⟨rfl, ⟨n', hs8⟩, hch⟩
              obtain ⟨map8, base8, blk8, lrow8, orow8⟩ := hA.keep hch
              go_wp2_with fail
              go_roundg (zs.length - (k + 1))
              case measure => omega
              case rel => exact ⟨k + 1, [], O, S, mem, hlt, rfl, by go_num, ⟨map8, ⟨y1, y2, y3, y4, y5, base8⟩, ⟨n', hs8⟩, hA.inv, hA.nd, hA.ond, hA.rng, hA.cnt, hA.cont, blk8, lrow8, by simpa using orow8⟩, hc.trans hch⟩
            · obtain ⟨p, T, g⟩ := en
              rw [List.concat_eq_append] at hLT
              subst hLT
              obtain ⟨⟨hp1, hp2, hpz, hpl⟩, hcon, ⟨hT1, hT4, hT0, hT4', xT⟩, hi', ⟨hll0, hll1, xw2, hlz⟩⟩ := hA.last
              obtain ⟨mem', x, e1, hi2, hf2⟩ := seqTake Hg.out hi'
              have D := takeRun wr Hg.out hA.map (Nat.le_trans y5 y6) y1 y2 hfree hs0 e1
              have HCON : Hid (Content c mem' p T) := hcon.frame hT4 (fun j j0 j1 _ => hf2 p j hp1 hp2 j0 j1)
              have HI2 : Hid _ := hi2
              have HF2 : Hid _ := hf2
              obtain ⟨m, hm⟩ : ∃ m : Nat, m = LT0.length := ⟨_, rfl⟩
              obtain ⟨m1, hm1⟩ : ∃ m1 : Nat, m1 = (LT0 ++ [(p, T, g)]).length := ⟨_, rfl⟩
              obtain ⟨xs1, xs2, xm0, xm1, hlz1, xm2⟩ := last_nums (m := m) (m1 := m1) (by rw [hm1, hm]; exact List.length_append) (by rw [hm]; exact hll1)
              rw [← hm1]
              have HM : Hid (m = LT0.length) := hm
              have HcntA : Hid _ := hcnt
              clear hll0 hll1 xw2 hlz hm hm1 hi' hi2 hf2 hcon hcnt xw hL1 hL0 hO0 hO1 e1 hfree hs0
              refine D.mono ?_; rintro e w7 ⟨b, rfl, D2⟩
              clear D
              go_wp2_with fail
              refine D2.mono ?_; rintro e w8 ⟨rfl, ⟨n', hs8⟩, hch⟩
              clear D2
              obtain ⟨map8, base8, blk8, lrow8, orow8⟩ := hA.keep hch
              simp only [List.map_append, List.map_cons, List.map_nil] at lrow8
              obtain ⟨gl, hal, hcl, hcap', hcap2, hcapn, lpop8⟩ := rows_last lrow8 (m := m) (by rw [HM.out]; simp)
              subst hal
              clear lrow8 blk8 orow8
              go_wp2_with fail
              refine (mPackets_any w8 map8).mono ?_; rintro e wx ⟨rfl, rfl⟩
              go_wp2_with fail
              refine (mMany_any p w8 map8 Hg.out).mono ?_; rintro e wx ⟨rfl, rfl⟩
              go_wp2_with fail
              refine (load_any (pPack c p 0) w8 hs8).mono ?_; rintro e w10 ⟨rfl, hs10, hc10⟩
              rw [HCON.out.1]
              have hch10 : Chg (MemB bs bl) wr w10 := hch.trans hc10.memB
              have HA : Hid _ := hA
              obtain ⟨map10, base10, blk10, _, orow10⟩ := hA.keep hch10
              have lpop10 := ownsRow_chg lpop8 hc10 (fun q hq e => by have := (ownsRow_base lpop8 q hq).1; omega)
              obtain ⟨hgb, rest, hgT⟩ := blk10 (p, T, g) (by simp)
              have hgbs : ¬ g = bs := by intro e; simp at hgb; omega
              have hc10w : Chg (MemB bs bl) w5 w10 := hc.trans hch10
              clear map8 base8 lpop8 hcl hch hs8 hc10 hch10 hgb hA
              go_wp2_with fail
              go_loopg [18] T.length (fun gj jv wq => ∃ (j : Nat) (n2 : Int), j ≤ T.length ∧ gj = T.length - j ∧ jv = .int .i64 j ∧ StoreAt wq bs bl mem' n2 ∧ Chg (fun i => i = bs) w10 wq)
              case atStart => exact ⟨0, _, Nat.zero_le _, by omega, rfl, hs10, Chg.refl _ _⟩
              case round =>
                clear hs10
                obtain ⟨j, n2, hj, rfl, rfl, hsq, hcq⟩ := hrel
                have hgq := hcq.blk hgT hgbs
                have mapq : MapAt wr w3.heap.size bm c := map10.below (hcq.toBelow (B := w3.heap.size) (Nat.le_trans y5 base10) (fun i hi e => by omega)) (Nat.le_refl _)
                by_cases hjT : j < T.length
                · have hgj := hgq.cell j
                  rw [store_word hjT] at hgj
                  have HJ : Hid (mget mem' (pTask c p j) = T[j]?.getD 0) := HCON.out.2 j hjT
                  have hjT' : (j : Int) < T.length := by omega
                  have hj0 : (0 : Int) ≤ j := by omega
                  generalize T[j]?.getD 0 = tj at *
                  go_wp2_with fail
                  go_region_held3 (fun w' => w'.cell? ⟨g, j, none⟩ = some (.int .u64 tj)) (first | exact hgj | exact kj)
                    (first
                     | (go_at_call 31; refine (mTask_any p j _ mapq.drew Hg.out).mono ?_; rintro e w12 ⟨rfl, rfl⟩)
                     | (go_at_call 29; refine (load_any (pTask c p j) _ hsq.drew).mono ?_; rintro e w13 ⟨rfl, hs13, hc13⟩
                        rw [HJ.out]
                        have kj := (hc13.blk hgq.drew hgbs).cell j
                        rw [(hgq.cell j).symm.trans hgj] at kj))
                  all_goals
                    go_wp2_with fail
                    go_roundg (T.length - (j + 1))
                    case measure => omega
                    case rel => exact ⟨j + 1, _, hjT, rfl, by go_num, hs13, hcq.trans (Chg.undrew (k := 1) hc13)⟩
                · obtain rfl : j = T.length := by omega
                  have hbw : w5.heap.size ≤ wr.heap.size := Nat.le_trans base10 hcq.size
                  have orowq : QRow wr w5.heap.size 3 (.slice ao O.length co) (O.map (Value.int .i64)) := by simpa using orow10.chg hcq (fun q hq e => by have := (orow10.base q hq).1; omega)
                  have lpopq := ownsRow_chg lpop10 hcq (fun q hq e => by have := (ownsRow_base lpop10 q hq).1; omega)
                  have orowa : QRow (wr.alloc (.cells #[.int .i64 p] 3)) w5.heap.size 3 (.slice ao O.length co) (O.map (Value.int .i64)) := orowq.chg ((Chg.refl (fun _ => False) wr).alloc _) (fun _ _ => id)
                  have hO5 : O.length ≤ 2000 := by have := HcntA.out; omega
                  obtain ⟨v', w', hr, hq', hgrow⟩ := run_append_queue (P := Try.prog) (wr.alloc (.cells #[.int .i64 p] 3)) w5.heap.size 55 55 3 i0 (.int .i64 0) 8 Try.underlying55 hi0 hz00 hz01 hz02 rfl _ _ orowa ⟨wr.heap.size, 0, none⟩ 1 (.int .i64 p) (World.news_of_block (cs := #[.int .i64 p]) (t := 3) (fr := (0, 0)) (heap_alloc_new wr _)) rfl (by simp; unfold maxLen; omega) (by simp; omega) (by simp; omega)
                  have hrow : ∀ q, Value.ownBlock (.slice ao O.length co) = some q → w5.heap.size ≤ q := fun q hq => (orowq.base q hq).1
                  have hcf : Chg (fun q => Value.ownBlock (.slice ao O.length co) = some q) wr w' := ((Chg.refl _ wr).alloc _).grown hgrow (fun q hq _ => hq)
                  have hc9 : Chg (MemB bs bl) w5 w' := (hc10w.trans (hcq.memB)).thenNew hcf (fun i hi e => by have := hrow i e; omega)
                  have hs9 : StoreAt w' bs bl mem' n2 := hsq.chg hcf (fun e => by have := hrow _ e; omega) (fun e => by have := hrow _ e; omega)
                  have map9 : MapAt w' w3.heap.size bm c := mapq.below (B' := w3.heap.size) (hcf.toBelow (Nat.le_trans y5 hbw) (fun i hi e => by have := hrow i e; omega)) (Nat.le_refl _)
                  have blk9 : ∀ e ∈ LT0, w5.heap.size ≤ e.2.2 ∧ ∃ rest, Blk w' e.2.2 39 (e.2.1.map (Value.int .u64) ++ rest) := fun e he => by
                    obtain ⟨h1, rest, h2⟩ := blk10 e (by simp [he])
                    exact ⟨h1, rest, hcf.blk (hcq.blk h2 (fun e => by omega)) (queue_ne orowq (hcq.blk h2 (fun e => by omega)) (by decide))⟩
                  have lrow9 := ownsRow_chg lpopq hcf (fun q hq hv => qrow_ne lpopq orowq (by decide) q hv hq)
                  have base9 : w5.heap.size ≤ w'.heap.size := Nat.le_trans hbw hcf.size
                  clear hgrow hcf hrow orowa lpopq lpop10 orow10 mapq hsq hcq hgq hgT map10
                  go_wp2_with (at_builtin; refine wpList_append_run rfl _ _ _ rfl _ _ rfl rfl v' w' hr ?_)
                  go_roundg (zs.length - (k + 1))
                  case measure => omega
                  case rel => exact ⟨k + 1, LT0, O ++ [p], S, mem', hlt, rfl, by go_num, Al.taken HA.out HI2.out HF2.out map9 base9 ⟨n2, hs9⟩ blk9 (by rw [← HM.out]; exact lrow9) (by simpa using hq'), hc9⟩

        · go_wp2_with fail
          obtain ⟨n0, hs0⟩ := hA.store
          obtain ⟨y1, y2, y3, y4, y5, y6⟩ := hA.lay
          have hfree : ∃ g, g < wr.heap.size ∧ g ≠ bs ∧ g ≠ bl := hA.free
          rcases List.eq_nil_or_concat LT with hLT | ⟨LT0, en, hLT⟩
          · subst hLT
            obtain ⟨x, e1⟩ := seqTake0 (c := c) (mem := mem) (S := S) (by simpa using hA.inv)
            have D := takeRun wr Hg.out hA.map (Nat.le_trans y5 y6) y1 y2 hfree hs0 e1
            clear e1 hfree hs0
            refine D.mono ?_; rintro e w7 ⟨b, rfl, D2⟩
            clear D
            go_wp2_with fail
            refine D2.mono ?_; rintro e w8 ⟨rfl, ⟨n', hs8⟩, hch⟩
            obtain ⟨map8, base8, blk8, lrow8, orow8⟩ := hA.keep hch
            go_wp2_with fail
            go_roundg (zs.length - (k + 1))
            case measure => omega
            case rel => exact ⟨k + 1, [], O, S, mem, hlt, rfl, by go_num, ⟨map8, ⟨y1, y2, y3, y4, y5, base8⟩, ⟨n', hs8⟩, hA.inv, hA.nd, hA.ond, hA.rng, hA.cnt, hA.cont, blk8, lrow8, by simpa using orow8⟩, hc.trans hch⟩
          · obtain ⟨p, T, g⟩ := en
            rw [List.concat_eq_append] at hLT
            subst hLT
            obtain ⟨⟨hp1, hp2, hpz, hpl⟩, hcon, ⟨hT1, hT4, hT0, hT4', xT⟩, hi', ⟨hll0, hll1, xw2, hlz⟩⟩ := hA.last
            obtain ⟨mem', x, e1, hi2, hf2⟩ := seqTake Hg.out hi'
            have D := takeRun wr Hg.out hA.map (Nat.le_trans y5 y6) y1 y2 hfree hs0 e1
            have HCON : Hid (Content c mem' p T) := hcon.frame hT4 (fun j j0 j1 _ => hf2 p j hp1 hp2 j0 j1)
            have HI2 : Hid _ := hi2
            have HF2 : Hid _ := hf2
            obtain ⟨m, hm⟩ : ∃ m : Nat, m = LT0.length := ⟨_, rfl⟩
            obtain ⟨m1, hm1⟩ : ∃ m1 : Nat, m1 = (LT0 ++ [(p, T, g)]).length := ⟨_, rfl⟩
            obtain ⟨xs1, xs2, xm0, xm1, hlz1, xm2⟩ := last_nums (m := m) (m1 := m1) (by rw [hm1, hm]; exact List.length_append) (by rw [hm]; exact hll1)
            rw [← hm1]
            have HM : Hid (m = LT0.length) := hm
            have HcntA : Hid _ := hcnt
            clear hll0 hll1 xw2 hlz hm hm1 hi' hi2 hf2 hcon hcnt xw hL1 hL0 hO0 hO1 e1 hfree hs0
            refine D.mono ?_; rintro e w7 ⟨b, rfl, D2⟩
            clear D
            go_wp2_with fail
            refine D2.mono ?_; rintro e w8 ⟨rfl, ⟨n', hs8⟩, hch⟩
            clear D2
            obtain ⟨map8, base8, blk8, lrow8, orow8⟩ := hA.keep hch
            simp only [List.map_append, List.map_cons, List.map_nil] at lrow8
            obtain ⟨gl, hal, hcl, hcap', hcap2, hcapn, lpop8⟩ := rows_last lrow8 (m := m) (by rw [HM.out]; simp)
            subst hal
            clear lrow8 blk8 orow8
            go_wp2_with fail
            refine (mPackets_any w8 map8).mono ?_; rintro e wx ⟨rfl, rfl⟩
            go_wp2_with fail
            refine (mMany_any p w8 map8 Hg.out).mono ?_; rintro e wx ⟨rfl, rfl⟩
            go_wp2_with fail
            refine (load_any (pPack c p 0) w8 hs8).mono ?_; rintro e w10 ⟨rfl, hs10, hc10⟩
            rw [HCON.out.1]
            have hch10 : Chg (MemB bs bl) wr w10 := hch.trans hc10.memB
            have HA : Hid _ := hA
            obtain ⟨map10, base10, blk10, _, orow10⟩ := hA.keep hch10
            have lpop10 := ownsRow_chg lpop8 hc10 (fun q hq e => by have := (ownsRow_base lpop8 q hq).1; omega)
            obtain ⟨hgb, rest, hgT⟩ := blk10 (p, T, g) (by simp)
            have hgbs : ¬ g = bs := by intro e; simp at hgb; omega
            have hc10w : Chg (MemB bs bl) w5 w10 := hc.trans hch10
            clear map8 base8 lpop8 hcl hch hs8 hc10 hch10 hgb hA
            go_wp2_with fail
            go_loopg [18] T.length (fun gj jv wq => ∃ (j : Nat) (n2 : Int), j ≤ T.length ∧ gj = T.length - j ∧ jv = .int .i64 j ∧ StoreAt wq bs bl mem' n2 ∧ Chg (fun i => i = bs) w10 wq)
            case atStart => exact ⟨0, _, Nat.zero_le _, by omega, rfl, hs10, Chg.refl _ _⟩
            case round =>
              clear hs10
              obtain ⟨j, n2, hj, rfl, rfl, hsq, hcq⟩ := hrel
              have hgq := hcq.blk hgT hgbs
              have mapq : MapAt wr w3.heap.size bm c := map10.below (hcq.toBelow (B := w3.heap.size) (Nat.le_trans y5 base10) (fun i hi e => by omega)) (Nat.le_refl _)
              by_cases hjT : j < T.length
              · have hgj := hgq.cell j
                rw [store_word hjT] at hgj
                have HJ : Hid (mget mem' (pTask c p j) = T[j]?.getD 0) := HCON.out.2 j hjT
                have hjT' : (j : Int) < T.length := by omega
                have hj0 : (0 : Int) ≤ j := by omega
                generalize T[j]?.getD 0 = tj at *
                go_wp2_with fail
                go_region_held3 (fun w' => w'.cell? ⟨g, j, none⟩ = some (.int .u64 tj)) (first | exact hgj | exact kj)
                  (first
                   | (go_at_call 31; refine (mTask_any p j _ mapq.drew Hg.out).mono ?_; rintro e w12 ⟨rfl, rfl⟩)
                   | (go_at_call 29; refine (load_any (pTask c p j) _ hsq.drew).mono ?_; rintro e w13 ⟨rfl, hs13, hc13⟩
                      rw [HJ.out]
                      have kj := (hc13.blk hgq.drew hgbs).cell j
                      rw [(hgq.cell j).symm.trans hgj] at kj))
                all_goals
                  go_wp2_with fail
                  go_roundg (T.length - (j + 1))
                  case measure => omega
                  case rel => exact ⟨j + 1, _, hjT, rfl, by go_num, hs13, hcq.trans (Chg.undrew (k := 1) hc13)⟩
              · obtain rfl : j = T.length := by omega
                have hbw : w5.heap.size ≤ wr.heap.size := Nat.le_trans base10 hcq.size
                have orowq : QRow wr w5.heap.size 3 (.slice ao O.length co) (O.map (Value.int .i64)) := by simpa using orow10.chg hcq (fun q hq e => by have := (orow10.base q hq).1; omega)
                have lpopq := ownsRow_chg lpop10 hcq (fun q hq e => by have := (ownsRow_base lpop10 q hq).1; omega)
                have orowa : QRow (wr.alloc (.cells #[.int .i64 p] 3)) w5.heap.size 3 (.slice ao O.length co) (O.map (Value.int .i64)) := orowq.chg ((Chg.refl (fun _ => False) wr).alloc _) (fun _ _ => id)
                have hO5 : O.length ≤ 2000 := by have := HcntA.out; omega
                obtain ⟨v', w', hr, hq', hgrow⟩ := run_append_queue (P := Try.prog) (wr.alloc (.cells #[.int .i64 p] 3)) w5.heap.size 55 55 3 i0 (.int .i64 0) 8 Try.underlying55 hi0 hz00 hz01 hz02 rfl _ _ orowa ⟨wr.heap.size, 0, none⟩ 1 (.int .i64 p) (World.news_of_block (cs := #[.int .i64 p]) (t := 3) (fr := (0, 0)) (heap_alloc_new wr _)) rfl (by simp; unfold maxLen; omega) (by simp; omega) (by simp; omega)
                have hrow : ∀ q, Value.ownBlock (.slice ao O.length co) = some q → w5.heap.size ≤ q := fun q hq => (orowq.base q hq).1
                have hcf : Chg (fun q => Value.ownBlock (.slice ao O.length co) = some q) wr w' := ((Chg.refl _ wr).alloc _).grown hgrow (fun q hq _ => hq)
                have hc9 : Chg (MemB bs bl) w5 w' := (hc10w.trans (hcq.memB)).thenNew hcf (fun i hi e => by have := hrow i e; omega)
                have hs9 : StoreAt w' bs bl mem' n2 := hsq.chg hcf (fun e => by have := hrow _ e; omega) (fun e => by have := hrow _ e; omega)
                have map9 : MapAt w' w3.heap.size bm c := mapq.below (B' := w3.heap.size) (hcf.toBelow (Nat.le_trans y5 hbw) (fun i hi e => by have := hrow i e; omega)) (Nat.le_refl _)
                have blk9 : ∀ e ∈ LT0, w5.heap.size ≤ e.2.2 ∧ ∃ rest, Blk w' e.2.2 39 (e.2.1.map (Value.int .u64) ++ rest) := fun e he => by
                  obtain ⟨h1, rest, h2⟩ := blk10 e (by simp [he])
                  exact ⟨h1, rest, hcf.blk (hcq.blk h2 (fun e => by omega)) (queue_ne orowq (hcq.blk h2 (fun e => by omega)) (by decide))⟩
                have lrow9 := ownsRow_chg lpopq hcf (fun q hq hv => qrow_ne lpopq orowq (by decide) q hv hq)
                have base9 : w5.heap.size ≤ w'.heap.size := Nat.le_trans hbw hcf.size
                clear hgrow hcf hrow orowa lpopq lpop10 orow10 mapq hsq hcq hgq hgT map10
                go_wp2_with (at_builtin; refine wpList_append_run rfl _ _ _ rfl _ _ rfl rfl v' w' hr ?_)
                go_roundg (zs.length - (k + 1))
                case measure => omega
                case rel => exact ⟨k + 1, LT0, O ++ [p], S, mem', hlt, rfl, by go_num, Al.taken HA.out HI2.out HF2.out map9 base9 ⟨n2, hs9⟩ blk9 (by rw [← HM.out]; exact lrow9) (by simpa using hq'), hc9⟩

    · obtain rfl : k = zs.length := by omega
      go_wp2_with fail
      go_ret
      exact ⟨rfl, hKr⟩

end Go.Proofs.Ytgfcdjedijloeaa

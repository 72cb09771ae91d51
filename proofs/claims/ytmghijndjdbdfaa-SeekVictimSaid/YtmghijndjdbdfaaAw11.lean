/- Chapter 11's example: walked. -/
import Derived.Test.YtmghijndjdbdfaaAwake11
import Derived.Test.YtmghijndjdbdfaaHeld
namespace Go.Proofs.Ytmghijndjdbdfaa
open Go.RowKit

theorem PmAt.chg {w w' : World} {S : Nat → Prop} {b bi gt bm bs bl : Nat} {s : PM} (h : PmAt w b bi gt bm bs bl s) (k : Chg S w w') (h1 : ¬ S b) (h2 : ¬ S bi) (h3 : ¬ S gt) : PmAt w' b bi gt bm bs bl s := by
  obtain ⟨ap, hall, hlen, hrng, tv, iv, hb, ht, hin⟩ := h
  exact ⟨ap, hall, hlen, hrng, tv, iv, k.blk hb h1, ht.chg k h3, fun e => ⟨(hin e).1, (hin e).2.1.chg k h2, (hin e).2.2⟩⟩

theorem first_facts {c : Cfg} (hg : Good c) : 0 < (firstL c).length ∧ (firstL c).length ≤ 20000 ∧ (∀ x ∈ firstL c, U x) := by
  have := allI_bound hg
  have hn := nN_bound hg
  have hl : (firstL c).length = (allI c).toNat := freeTo_len c _
  exact ⟨by omega, by omega, freeTo_all hg _ (by omega)⟩

theorem Blk.row {w : World} {g : Nat} {t : TypeId} {xs : List Value} (h : Blk w g t xs) (hl : xs.length ≤ maxLen) : Row w (.slice (some ⟨g, 0, none⟩) xs.length xs.length) xs :=
  ⟨⟨some ⟨g, 0, none⟩, xs.length, rfl, hl, fun i u hu => ⟨g, rfl, h.lt, by rw [h.cell i]; exact hu⟩⟩⟩

theorem PM.packet_done {s : PM} (h : s.pc = .done) : s.packet = s.p := by unfold PM.packet; rw [h]; rfl

theorem putA_ok : PmOk putA := ⟨fun _ => ⟨rfl, by decide⟩, fun e => by cases e⟩
theorem takeA_ok : PmOk takeA := ⟨fun e => (by cases e), fun e => by cases e⟩

end Go.Proofs.Ytmghijndjdbdfaa

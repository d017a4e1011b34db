/- Are pieces alike? -/
import Derived.Test.YtmgifbibhodbbaaDoorF11
namespace Go.Proofs.YtmgifbibhodbbaaDoor
open Go.RowKit

theorem PcsAt.below {w w' : World} {n : Nat} {A : Option Addr} {L : List (Nat × List UInt8)} (h : PcsAt w n A L) (hb : Below n w w') : PcsAt w' n A L := fun hne => by
  obtain ⟨b, o, h1, h2, h3⟩ := h hne
  refine ⟨b, o, h1, h2, fun k p hk => ?_⟩
  obtain ⟨h4, h5⟩ := h3 k p hk
  exact ⟨(hb.cell (p := ⟨b, o + k * 2, none⟩) h2).trans h4, (hb.cell (p := ⟨b, o + k * 2 + 1, none⟩) h2).trans h5⟩

set_option maxRecDepth 100000 in
set_option maxHeartbeats 1600000 in
theorem same_any (L : List (Nat × List UInt8)) (A A' : Option Addr) (c c' : Nat) (w : World) (hl : PcsAt w w.heap.size A L) (hl' : PcsAt w w.heap.size A' L) (hlen : L.length ≤ 900000) :
    Calls Tryd.prog 24 #[.slice A L.length c, .slice A' L.length c'] w fun e w' => e = .returned (.bool true) ∧ Below w.heap.size w w' := by
  have HL := Lib.hid hl; have HL' := Lib.hid hl'; clear hl hl'
  go_enter Tryd.func24, Tryd.ntmps24
  go_wp2_with fail
  go_loopw [5] (fun x wr => ∃ k : Nat, k ≤ L.length ∧ x = .int .i64 k ∧ Below w.heap.size w wr) (fun x _ => (L.length - intOf x).toNat)
  case atStart => exact ⟨0, by omega, rfl, Below.refl _ _⟩
  case round =>
    obtain ⟨k, hk, rfl, hB⟩ := hrel
    by_cases hlt : k < L.length
    · obtain ⟨r, hr⟩ : ∃ r, L[k]? = some r := ⟨_, List.getElem?_eq_getElem hlt⟩
      have hne : L ≠ [] := by intro e; subst e; simp at hlt
      obtain ⟨g, o, e1, hg, hc⟩ := HL.out.below hB hne
      obtain ⟨g', o', e1', hg', hc'⟩ := HL'.out.below hB hne
      subst e1 e1'
      obtain ⟨a0, a1⟩ := hc k r hr
      obtain ⟨b0, b1⟩ := hc' k r hr
      have hlk : decide ((k : Int) < L.length) = true := by simp; omega
      have hlk2 : decide (k < L.length) = true := by simp; omega
      have HB := Lib.hid hB
      clear hB hc hc' hr hne
      go_wp2_with fail
      go_quiet (fail)
      go_wp2_with fail
      go_roundw
      case rel => exact ⟨k + 1, by omega, by go_num, below_drewN HB.out _⟩
      case measure => simp [intOf]; omega
    · have hlk : decide ((k : Int) < L.length) = false := by simp; omega
      have hlk2 : decide (k < L.length) = false := by simp; omega
      go_wp2_with fail
      go_ret
      exact ⟨rfl, hB⟩

end Go.Proofs.YtmgifbibhodbbaaDoor

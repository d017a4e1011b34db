/- The contract of the reference's reader: String; what is asked of both readers. -/
import Derived.Test.YtmgifbibhodbbaaDoorR7
import Derived.Test.YtmgifbibhodbbaaDoorT8
import Derived.Deep.Draws
namespace Go.Proofs.YtmgifbibhodbbaaDoor
open Go.RowKit

set_option maxHeartbeats 800000 in
set_option maxRecDepth 100000 in
theorem refString_any (g : Nat) (S : List UInt8) (s : Sta) (w : World) (hS : S.length ≤ 1048576) (hr : Rr w g S s) :
    Calls Tryd.prog 43 #[.pointer (some ⟨g, 0, none⟩)] w fun e w' => e = .returned (.string (B (pString s).1)) ∧ Rr w' g S (pString s).2 ∧ w.grownBy w' (some g) := by
  have hok := hr.ok
  cases h1 : nextB 34 s with
  | true =>
    obtain ⟨l, f⟩ := s
    obtain ⟨t, ht⟩ := nextB_some h1
    simp only at ht
    subst ht
    have hf : f = false := by cases f with
      | false => rfl
      | true => have := hok rfl; simp at this
    subst hf
    have hp : pString (34 :: t, false) = pQuoted (34 :: t, false) := by unfold pString; rw [if_pos h1]
    rw [hp]
    exact refQuoted_any g S t w hS hr
  | false =>
    cases h2 : nextB 123 s with
    | true =>
      have hp : pString s = pLit s := by unfold pString; rw [if_neg (by rw [h1]; simp), if_pos h2]
      rw [hp]
      have hx := refNext_at g S s 123 123 rfl true h2 w hS hr
      have hq : ∀ W, (∃ n, W = w.drewN n) → Calls Tryd.prog 44 #[.pointer (some ⟨g, 0, none⟩)] W fun e w' => e = .returned (.string (B (pLit s).1)) ∧ Rr w' g S (pLit s).2 ∧ W.grownBy w' (some g) := fun W h => refLiteral_any g S s W hS (rr_drewOf h hr)
      have HX := Lib.hid hx; have HQ := Lib.hid hq
      clear hx hq hp h1 h2 hr hok
      go_enter Tryd.func43, Tryd.ntmps43
      go_wp2_with fail
      refine HX.out.mono ?_
      rintro e w1 ⟨rfl, d1⟩
      have D1 := Lib.hid d1
      clear d1
      go_wp2_with fail
      refine (HQ.out _ D1.out).mono ?_
      rintro e w2 ⟨rfl, k1, q1⟩
      go_wp2_with fail
      go_ret
      exact ⟨rfl, k1, grown_then (grown_drewOf D1.out _) q1⟩
    | false =>
      have hp : pString s = pAtom s := by unfold pString; rw [if_neg (by rw [h1]; simp), if_neg (by rw [h2]; simp)]
      rw [hp]
      have hx := refNext_at g S s 123 123 rfl false h2 w hS hr
      have hy : ∀ W, (∃ n, W = w.drewN n) → Calls Tryd.prog 47 #[.pointer (some ⟨g, 0, none⟩), .int .u8 34] W fun e w' => e = .returned (.bool false) ∧ ∃ n, w' = W.drewN n := fun W h => refNext_at g S s 34 34 rfl false h1 W hS (rr_drewOf h hr)
      have hq : ∀ W, (∃ n, W = w.drewN n) → Calls Tryd.prog 41 #[.pointer (some ⟨g, 0, none⟩)] W fun e w' => e = .returned (.string (B (pAtom s).1)) ∧ Rr w' g S (pAtom s).2 ∧ W.grownBy w' (some g) := fun W h => refAtom_any g S s W hS (rr_drewOf h hr)
      have HX := Lib.hid hx; have HY := Lib.hid hy; have HQ := Lib.hid hq
      clear hx hy hq hp h1 h2 hr hok
      go_enter Tryd.func43, Tryd.ntmps43
      go_wp2_with fail
      refine HX.out.mono ?_
      rintro e w1 ⟨rfl, d1⟩
      have D1 := Lib.hid d1
      clear d1
      go_wp2_with fail
      refine (HY.out _ D1.out).mono ?_
      rintro e w2 ⟨rfl, d2⟩
      have hd2 : ∃ n, w2 = w.drewN n := by
        obtain ⟨a, ha⟩ := D1.out; obtain ⟨b, hb⟩ := d2
        exact ⟨a + b, by rw [hb, ha, World.drewN_drewN]⟩
      have D2 := Lib.hid hd2
      clear d2 hd2
      go_wp2_with fail
      refine (HQ.out _ D2.out).mono ?_
      rintro e w3 ⟨rfl, k1, q1⟩
      go_wp2_with fail
      go_ret
      exact ⟨rfl, k1, grown_then (grown_drewOf D2.out _) q1⟩

end Go.Proofs.YtmgifbibhodbbaaDoor

/- What is asked of both readers: one contract; the walk of TokenReads. -/
import Derived.Test.YtmgifbibhodbbaaDoorK2
import Derived.Test.YtmgifbibhodbbaaDoorK3
import Derived.Test.YtmgifbibhodbbaaDoorK4
namespace Go.Proofs.YtmgifbibhodbbaaDoor
open Go.RowKit

theorem asked_any {n₀ g h : Nat} {S : List UInt8} {s : Sta} {w : World} (d : Nat) (v : List UInt8) (hv : v.length ≤ 1048576) (hS : S.length ≤ 1048576) (hg : n₀ ≤ g) (hh : n₀ ≤ h) (hne : g ≠ h) (hb : Both n₀ g h S s w) :
    Calls Tryd.prog 20 #[.pointer (some ⟨g, 0, none⟩), .pointer (some ⟨h, 0, none⟩), .agg #[.int .u8 d, .string (B v)]] w (AskPost n₀ g h S (askS d v s) w) := by
  by_cases h9 : d < 9
  · rcases v with _ | ⟨c, r⟩
    · have : d = 0 ∨ d = 1 ∨ d = 2 ∨ d = 3 ∨ d = 4 ∨ d = 5 ∨ d = 6 ∨ d = 7 ∨ d = 8 := by omega
      rcases this with rfl | rfl | rfl | rfl | rfl | rfl | rfl | rfl | rfl
      · exact asked_0n hS hg hh hne hb
      · exact asked_1n hS hg hh hne hb
      · exact asked_2n hS hg hh hne hb
      · exact asked_3n hS hg hh hne hb
      · exact asked_4n hS hg hh hne hb
      · exact asked_5n hS hg hh hne hb
      · exact asked_6n hS hg hh hne hb
      · exact asked_7n hS hg hh hne hb
      · exact asked_8n hS hg hh hne hb
    · have : d = 0 ∨ d = 1 ∨ d = 2 ∨ d = 3 ∨ d = 4 ∨ d = 5 ∨ d = 6 ∨ d = 7 ∨ d = 8 := by omega
      rcases this with rfl | rfl | rfl | rfl | rfl | rfl | rfl | rfl | rfl
      · exact asked_0c c r hS hg hh hne hb
      · exact asked_1c c r hS hg hh hne hb
      · exact asked_2c c r hS hg hh hne hb
      · exact asked_3c c r hS hg hh hne hb
      · exact asked_4c c r hS hg hh hne hb
      · exact asked_5c c r hS hg hh hne hb hv
      · exact asked_6c c r hS hg hh hne hb
      · exact asked_7c c r hS hg hh hne hb
      · exact asked_8c c r hS hg hh hne hb
  · have hk : ∀ k : Nat, k < 9 → ((d : Int) == (k : Int)) = false := fun k hk => by simp; omega
    have hs : askS d v s = s := by
      unfold askS
      split <;> first | rfl | (exfalso; omega)
    rw [hs]
    rcases v with _ | ⟨c, r⟩
    · exact asked_dn d hS hg hh hne hb (hk 0 (by omega)) (hk 1 (by omega)) (hk 2 (by omega)) (hk 3 (by omega)) (hk 4 (by omega)) (hk 5 (by omega)) (hk 6 (by omega)) (hk 7 (by omega)) (hk 8 (by omega))
    · exact asked_dc d c r hS hg hh hne hb (hk 0 (by omega)) (hk 1 (by omega)) (hk 2 (by omega)) (hk 3 (by omega)) (hk 4 (by omega)) (hk 5 (by omega)) (hk 6 (by omega)) (hk 7 (by omega)) (hk 8 (by omega))

end Go.Proofs.YtmgifbibhodbbaaDoor

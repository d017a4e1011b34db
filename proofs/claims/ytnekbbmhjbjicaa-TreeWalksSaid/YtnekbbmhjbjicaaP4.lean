/- Plain laws: the k-th slot of a walk of Stand's trees. -/
import Derived.Test.YtnekbbmhjbjicaaW9a
namespace Go.Proofs.Ytnekbbmhjbjicaa
open Go.RowKit

theorem slot_facts {L : List Rc} {gap more h k : Nat} {root slot : Int} {sh : List Nd} {n : Nd} (hlen : L.length ≤ 1000) (hgap : gap ≤ 1000) (hne : L ≠ [] → h = standH L more ∧ root = gap ∧ sh = standS L gap more) (hnil : L = [] → sh = [] ∧ root = -1 ∧ h = 0)
    (hx : (wl (stOf sh) h root)[k]? = some (slot, n)) : ∃ m : Nat, slot = (m : Int) ∧ root + k = (m : Int) ∧ sh[m]? = some n ∧ m < 20000 := by
  by_cases he : L = []
  · obtain ⟨rfl, rfl, rfl⟩ := hnil he
    rw [wl_none (stOf_neg (by omega))] at hx
    simp at hx
  · obtain ⟨rfl, rfl, rfl⟩ := hne he
    rw [stand_walk he] at hx
    unfold slotsOf at hx
    rw [List.getElem?_mapIdx] at hx
    cases hr : (bl (standH L more) L 0)[k]? with
    | none => rw [hr] at hx; cases hx
    | some r =>
      rw [hr] at hx
      simp only [Option.map_some, Option.some.injEq, Prod.mk.injEq] at hx
      obtain ⟨h1, h2⟩ := hx
      have hk := (List.getElem?_eq_some_iff.1 hr).1
      have hs := (stand_small he hlen more).1
      refine ⟨gap + k, ?_, by omega, ?_, by omega⟩
      · rw [← h1]; simp
      · unfold standS
        rw [List.getElem?_append_right (by simp), List.length_replicate, Nat.add_sub_cancel_left, List.getElem?_map, hr]
        simp [h2]

theorem slot_end {L : List Rc} {gap more h : Nat} {root : Int} {sh : List Nd} (hlen : L.length ≤ 1000) (_hgap : gap ≤ 1000) (hne : L ≠ [] → h = standH L more ∧ root = gap ∧ sh = standS L gap more) (hnil : L = [] → sh = [] ∧ root = -1 ∧ h = 0) :
    (0 < L.length → root + (wl (stOf sh) h root).length = (sh.length : Int)) ∧ (L.length = 0 → root + (wl (stOf sh) h root).length = -1) := by
  refine ⟨fun hp => ?_, fun hp => ?_⟩
  · have he : L ≠ [] := by intro e; subst e; simp at hp
    obtain ⟨rfl, rfl, rfl⟩ := hne he
    rw [stand_walk he]
    unfold slotsOf standS
    simp
  · have he : L = [] := List.eq_nil_of_length_eq_zero hp
    obtain ⟨rfl, rfl, rfl⟩ := hnil he
    rw [wl_none (stOf_neg (by omega))]
    rfl
end Go.Proofs.Ytnekbbmhjbjicaa

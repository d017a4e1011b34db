/- Plain laws: what a right tree's walk gives; the slots of Stand's trees. -/
import Derived.Test.YtnekbbmhjbjicaaW8
namespace Go.Proofs.Ytnekbbmhjbjicaa
open Go.RowKit

theorem deep_none {st : St} {slot : Int} (h : st slot = none) : ∀ r, Deep st r slot
  | 0 => fun n hn => by rw [h] at hn; cases hn
  | r + 1 => fun n hn => by rw [h] at hn; cases hn

theorem RightAt.deep {st : St} (hl : st (-1) = none) : ∀ {h : Nat} {slot : Int} {L : List Rc}, RightAt st h slot L → Deep st h slot
  | 0, slot, L, ⟨n, r, h1, h2, h3, h4⟩ => fun m hm => by rw [h1] at hm; cases hm; omega
  | h + 1, slot, L, ⟨h0, n, h1, h2, h3, h4⟩ => fun m hm hk d hd => by
    rw [h1] at hm; cases hm
    rcases h4 d hd with ⟨_, h6⟩ | ⟨_, h6⟩
    · rw [h6]; exact deep_none hl h
    · exact h6.deep hl

theorem flat_filter (f : Rc → Nat) (L : List Rc) (hs : L.Pairwise (fun a b => f a ≤ f b)) : ∀ m, (List.range m).flatMap (fun d => L.filter (fun r => f r == d)) = L.filter (fun r => decide (f r < m))
  | 0 => by simp
  | m + 1 => by
    rw [List.range_succ, List.flatMap_append, flat_filter f L hs m]
    simp only [List.flatMap_cons, List.flatMap_nil, List.append_nil]
    induction L with
    | nil => rfl
    | cons a L ih =>
      have hp := List.pairwise_cons.1 hs
      have ih' := ih hp.2
      by_cases h1 : f a < m
      · have h2 : f a < m + 1 := by omega
        have h3 : ¬ f a = m := by omega
        simp only [List.filter_cons, h1, h2, decide_true, if_true, beq_iff_eq, h3, if_false, List.cons_append]
        rw [ih']
      · have hz : L.filter (fun r => decide (f r < m)) = [] := by
          rw [List.filter_eq_nil_iff]
          intro b hb
          have := hp.1 b hb
          simp; omega
        rw [hz] at ih'
        by_cases h2 : f a = m
        · have h3 : f a < m + 1 := by omega
          simp only [List.filter_cons, if_true, beq_iff_eq, h2, hz]
          rw [← ih']; simp
        · have h3 : ¬ f a < m + 1 := by omega
          simp only [List.filter_cons, h1, h3, decide_false, beq_iff_eq, h2, Bool.false_eq_true, if_false, hz, List.nil_append]
          rw [← ih']; simp

theorem flatMap_congr' {α β : Type} {l : List α} {f g : α → List β} (h : ∀ x ∈ l, f x = g x) : l.flatMap f = l.flatMap g := by
  induction l with
  | nil => rfl
  | cons a l ih => rw [List.flatMap_cons, List.flatMap_cons, h a (by simp), ih (fun x hx => h x (by simp [hx]))]

theorem leaves_flat {α : Type} (l : List α) (f : α → List (Int × Nd)) : leaves (l.flatMap f) = l.flatMap (fun x => leaves (f x)) := by
  induction l with
  | nil => rfl
  | cons a l ih =>
    rw [List.flatMap_cons, List.flatMap_cons, ← ih]
    unfold leaves; rw [List.filter_append, List.map_append]

/-- the messages below a right node are just its list -/
theorem RightAt.leaves {st : St} (hl : st (-1) = none) : ∀ {h : Nat} {slot : Int} {L : List Rc} {p : Nat}, RightAt st h slot L → Sorted L → (∀ r ∈ L, r.uid / 16 ^ h = p) → leaves (wl st h slot) = L
  | 0, slot, L, p, ⟨n, r, h1, h2, h3, h4⟩, _, _ => by
    rw [wl_some h1 (by omega)]
    simp [Ytnekbbmhjbjicaa.leaves, isLeaf, h2, h3, h4]
  | h + 1, slot, L, p, ⟨h0, n, h1, h2, h3, h4⟩, hs, hp => by
    rw [wl_branch h1 h2]
    have e1 : Ytnekbbmhjbjicaa.leaves ((slot, n) :: wlTo st h n 16) = Ytnekbbmhjbjicaa.leaves (wlTo st h n 16) := by
      unfold Ytnekbbmhjbjicaa.leaves
      rw [List.filter_cons_of_neg (by simp [isLeaf, h2])]
    have e2 : Ytnekbbmhjbjicaa.leaves (wlTo st h n 16) = (List.range 16).flatMap (fun d => part h d L) := by
      unfold wlTo
      rw [leaves_flat]
      refine flatMap_congr' fun d hd => ?_
      rw [List.mem_range] at hd
      rcases h4 d hd with ⟨h5, h6⟩ | ⟨h5, h6⟩
      · rw [h5, h6, wl_none hl]; rfl
      · exact h6.leaves hl (hs.part h d) (pre_part hp)
    rw [e1, e2]
    unfold part
    rw [flat_filter (fun r => dig r.uid h) L (hs.dig hp) 16]
    rw [List.filter_eq_self]
    intro r _
    have := dig_lt r.uid h
    simpa using this

/-! ### the slots of Stand's trees, in order -/
def slotsOf (gap at_ : Nat) (R : List Rn) : List (Int × Nd) := R.mapIdx (fun j r => (((gap + at_ + j : Nat) : Int), conv gap r))
theorem slotsOf_append (gap at_ : Nat) (R R' : List Rn) : slotsOf gap at_ (R ++ R') = slotsOf gap at_ R ++ slotsOf gap (at_ + R.length) R' := by
  unfold slotsOf
  rw [List.mapIdx_append]
  congr 1
  congr 1
  funext j r
  congr 2
  omega

theorem wl_bl (sh : List Nd) (gap : Nat) : ∀ (h : Nat) (L : List Rc) (at_ : Nat), L ≠ [] → (∀ i r, (bl h L at_)[i]? = some r → sh[gap + at_ + i]? = some (conv gap r)) →
    wl (stOf sh) h ((gap + at_ : Nat) : Int) = slotsOf gap at_ (bl h L at_)
  | 0, L, at_, hne, hsh => by
    have h1 := hsh 0 _ rfl
    have h2 := stOf_in h1
    have hk : (conv gap (Rn.leafOf (L.headD Rc.zero))).kind = 2 := rfl
    rw [if_neg (by rw [hk]; omega)] at h2
    rw [Nat.add_zero] at h2
    rw [wl_some h2 (by rw [hk]; omega)]
    rfl
  | h + 1, L, at_, hne, hsh => by
    rw [bl_succ] at hsh ⊢
    generalize hT : accBl (bl h) h L at_ 16 = T at hsh ⊢
    have h1 := hsh 0 _ rfl
    have h2 := stOf_in h1
    rw [if_neg (by intro e; cases e), Nat.add_zero] at h2
    have key : ∀ d, d ≤ 16 → wlTo (stOf sh) h (conv gap ⟨false, L.length, kidBl (bl h) h L at_, Rc.zero⟩) d = slotsOf gap (at_ + 1) (accBl (bl h) h L at_ d) := by
      intro d
      induction d with
      | zero => intro _; rfl
      | succ d ih =>
        intro hd
        rw [wlTo_succ, ih (by omega), accBl, slotsOf_append]
        congr 1
        by_cases hp : part h d L = []
        · rw [if_pos hp]
          have e : (conv gap ⟨false, L.length, kidBl (bl h) h L at_, Rc.zero⟩).kids d = -1 := by
            show (if 0 ≤ kidBl (bl h) h L at_ d then kidBl (bl h) h L at_ d + gap else kidBl (bl h) h L at_ d) = -1
            rw [kidBl, if_pos hp]; rfl
          rw [e, wl_none (stOf_neg (by omega))]; rfl
        · rw [if_neg hp]
          have e : (conv gap ⟨false, L.length, kidBl (bl h) h L at_, Rc.zero⟩).kids d = ((gap + (at_ + 1 + (accBl (bl h) h L at_ d).length) : Nat) : Int) := by
            show (if 0 ≤ kidBl (bl h) h L at_ d then kidBl (bl h) h L at_ d + gap else kidBl (bl h) h L at_ d) = _
            rw [kidBl, if_neg hp, if_pos (by omega)]; omega
          rw [e]
          refine wl_bl sh gap h (part h d L) _ hp (fun i r hi => ?_)
          have h3 := accBl_sub (bl h) h L at_ d i r (by omega) hp hi
          rw [hT] at h3
          have h4 := hsh (1 + ((accBl (bl h) h L at_ d).length + i)) r (by
            rw [Nat.add_comm 1, List.getElem?_cons_succ]
            exact h3)
          rw [← h4]; congr 1; omega
    have hk1 : (conv gap ⟨false, L.length, kidBl (bl h) h L at_, Rc.zero⟩).kind = 1 := rfl
    have key16 := key 16 (Nat.le_refl _)
    rw [hT] at key16
    clear key h1 hsh hT
    rw [wl_branch h2 hk1, key16]
    clear key16 hk1 h2
    unfold slotsOf
    rw [List.mapIdx_cons]
    congr 1
    congr 1
    funext j r
    congr 2
    omega

/-- the walk of Stand's tree -/
theorem stand_walk {L : List Rc} (hne : L ≠ []) (gap more : Nat) : wl (stOf (standS L gap more)) (standH L more) (gap : Int) = slotsOf gap 0 (bl (standH L more) L 0) := by
  refine wl_bl _ gap (standH L more) L 0 hne (fun i r hi => ?_)
  unfold standS
  rw [List.getElem?_append_right (by simp), List.length_replicate, Nat.add_zero, Nat.add_sub_cancel_left, List.getElem?_map, hi]; rfl

theorem TreeOK.deep {st : St} {root : Int} {h : Nat} {L : List Rc} (hl : st (-1) = none) (ht : TreeOK st root h L) : Deep st h root := by
  obtain ⟨_, _, _, ⟨rfl, rfl, h3⟩ | ⟨h1, h2, h3, h4⟩⟩ := ht
  · exact deep_none h3 0
  · exact h3.deep hl
theorem TreeOK.leaves {st : St} {root : Int} {h : Nat} {L : List Rc} (hl : st (-1) = none) (ht : TreeOK st root h L) : leaves (wl st h root) = L := by
  obtain ⟨_, _, hs, ⟨rfl, rfl, h3⟩ | ⟨h1, h2, h3, h4⟩⟩ := ht
  · rw [wl_none h3]; rfl
  · exact h3.leaves hl hs h4
end Go.Proofs.Ytnekbbmhjbjicaa

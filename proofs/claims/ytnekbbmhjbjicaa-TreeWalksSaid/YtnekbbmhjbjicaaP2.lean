/- Plain laws of Stand: sizes; what a list that is right gives. -/
import Derived.Test.YtnekbbmhjbjicaaP1
namespace Go.Proofs.Ytnekbbmhjbjicaa
open Go.RowKit

theorem part_sum (h : Nat) (L : List Rc) : ∀ d, (List.range d).foldl (fun s e => s + (part h e L).length) 0 = L.countP (fun r => decide (dig r.uid h < d))
  | 0 => by simp
  | d + 1 => by
    rw [List.range_succ, List.foldl_append, part_sum h L d]
    simp only [List.foldl_cons, List.foldl_nil]
    unfold part
    rw [← List.countP_eq_length_filter]
    induction L with
    | nil => rfl
    | cons a L ih =>
      rw [List.countP_cons, List.countP_cons, List.countP_cons, ← ih]
      by_cases h1 : dig a.uid h < d
      · have h2 : dig a.uid h < d + 1 := by omega
        have h3 : dig a.uid h ≠ d := by omega
        simp [h1, h2, h3]; omega
      · by_cases h2 : dig a.uid h = d
        · have h3 : dig a.uid h < d + 1 := by omega
          simp [h2]; omega
        · have h3 : ¬ dig a.uid h < d + 1 := by omega
          simp [h1, h2, h3]

theorem countP_le (h d : Nat) (L : List Rc) : L.countP (fun r => decide (dig r.uid h < d)) ≤ L.length := List.countP_le_length

theorem countP_succ (h d : Nat) (L : List Rc) : L.countP (fun r => decide (dig r.uid h < d + 1)) = L.countP (fun r => decide (dig r.uid h < d)) + (part h d L).length := by
  have h1 := part_sum h L d
  have h2 := part_sum h L (d + 1)
  rw [List.range_succ, List.foldl_append, h1] at h2
  exact h2.symm

theorem accBl_len (f : List Rc → Nat → List Rn) (c h : Nat) (L : List Rc) (at_ : Nat) (hf : ∀ M a, M ≠ [] → (f M a).length ≤ c * M.length) : ∀ d, (accBl f h L at_ d).length ≤ c * L.countP (fun r => decide (dig r.uid h < d))
  | 0 => by simp [accBl]
  | d + 1 => by
    have ih := accBl_len f c h L at_ hf d
    rw [accBl, List.length_append, countP_succ, Nat.mul_add]
    by_cases hp : part h d L = []
    · rw [if_pos hp]; simp; omega
    · rw [if_neg hp]
      have := hf (part h d L) (at_ + 1 + (accBl f h L at_ d).length) hp
      omega

theorem bl_len : ∀ (h : Nat) (L : List Rc) (at_ : Nat), L ≠ [] → (bl h L at_).length ≤ (h + 1) * L.length
  | 0, L, at_, hne => by
    have := List.length_pos_iff.2 hne
    simp [bl]; omega
  | h + 1, L, at_, hne => by
    have h1 := accBl_len (bl h) (h + 1) h L at_ (fun M a hM => bl_len h M a hM) 16
    have h2 := countP_le h 16 L
    have h3 := List.length_pos_iff.2 hne
    have h4 : (h + 1) * L.countP (fun r => decide (dig r.uid h < 16)) ≤ (h + 1) * L.length := Nat.mul_le_mul_left _ h2
    rw [bl_succ, List.length_cons]
    have h5 : (h + 1 + 1) * L.length = (h + 1) * L.length + L.length := Nat.succ_mul _ _
    omega

theorem accBl_mem (f : List Rc → Nat → List Rn) (h : Nat) (L : List Rc) (at_ : Nat) (r : Rn) : ∀ d, r ∈ accBl f h L at_ d → ∃ e, e < d ∧ part h e L ≠ [] ∧ r ∈ f (part h e L) (at_ + 1 + (accBl f h L at_ e).length)
  | 0, hr => by simp [accBl] at hr
  | d + 1, hr => by
    rw [accBl, List.mem_append] at hr
    rcases hr with hr | hr
    · obtain ⟨e, h1, h2, h3⟩ := accBl_mem f h L at_ r d hr
      exact ⟨e, by omega, h2, h3⟩
    · by_cases hp : part h d L = []
      · rw [if_pos hp] at hr; cases hr
      · rw [if_neg hp] at hr
        exact ⟨d, by omega, hp, hr⟩

theorem accBl_part (f : List Rc → Nat → List Rn) (h : Nat) (L : List Rc) (at_ e d : Nat) (hed : e < d) (hp : part h e L ≠ []) : (accBl f h L at_ e).length + (f (part h e L) (at_ + 1 + (accBl f h L at_ e).length)).length ≤ (accBl f h L at_ d).length := by
  have h1 := accBl_mono f h L at_ (show e + 1 ≤ d by omega)
  rw [accBl, if_neg hp, List.length_append] at h1
  exact h1

theorem bl_small (N : Nat) (hN : N ≤ 1000000) : ∀ (h : Nat) (L : List Rc) (at_ : Nat), L ≠ [] → at_ + (bl h L at_).length ≤ N → SmallR (bl h L at_)
  | 0, L, at_, hne, hn => by
    intro r hr k hk
    simp only [bl, List.mem_singleton] at hr
    subst hr
    simp [Rn.leafOf]
  | h + 1, L, at_, hne, hn => by
    intro r hr k hk
    rw [bl_succ] at hr hn
    generalize hT : accBl (bl h) h L at_ 16 = T at hr hn
    simp only [List.length_cons] at hn
    rcases List.mem_cons.1 hr with rfl | hr
    · show -1 ≤ kidBl (bl h) h L at_ k ∧ kidBl (bl h) h L at_ k ≤ 1000000
      have h1 := accBl_mono (bl h) h L at_ (show k ≤ 16 by omega)
      rw [hT] at h1
      unfold kidBl
      split <;> omega
    · rw [← hT] at hr
      obtain ⟨e, h1, h2, h3⟩ := accBl_mem (bl h) h L at_ r 16 hr
      have h4 := accBl_part (bl h) h L at_ e 16 h1 h2
      rw [hT] at h4
      exact bl_small N hN h _ _ h2 (by omega) r h3 k hk

/-! ### a list that is right -/
theorem okAt_get {L : List Rc} {k : Nat} {r : Rc} (hr : L[k]? = some r) (h : okAt L k = true) : 0 < r.uid ∧ ∀ p, 0 < k → L[k - 1]? = some p → p.uid < r.uid := by
  unfold okAt at h
  rw [hr] at h
  simp only [Bool.and_eq_true, bne_iff_ne, ne_eq, Bool.or_eq_true, beq_iff_eq] at h
  refine ⟨by omega, fun p hk hp => ?_⟩
  rcases h.2 with h2 | h2
  · omega
  · rw [hp] at h2; simpa using h2

theorem rightB_ok {L : List Rc} (h : rightB L = true) : ∀ k, k < L.length → okAt L k = true := fun k hk => by
  unfold rightB at h
  rw [List.all_eq_true] at h
  exact h k (List.mem_range.2 hk)

theorem rightB_sorted {L : List Rc} (h : rightB L = true) : Sorted L ∧ ∀ r ∈ L, 0 < r.uid := by
  have hok := rightB_ok h
  have key : ∀ (d i : Nat) (a b : Rc), L[i]? = some a → L[i + (d + 1)]? = some b → a.uid < b.uid := by
    intro d
    induction d with
    | zero =>
      intro i a b ha hb
      exact (okAt_get hb (hok _ (List.getElem?_eq_some_iff.1 hb).1)).2 a (by omega) (by simpa using ha)
    | succ d ih =>
      intro i a b ha hb
      have hlt := (List.getElem?_eq_some_iff.1 hb).1
      have hm : L[i + (d + 1)]? = some (L[i + (d + 1)]'(by omega)) := List.getElem?_eq_getElem (by omega)
      have h1 := ih i a _ ha hm
      have h2 := (okAt_get hb (hok _ hlt)).2 _ (by omega) (by rw [← hm]; congr 1)
      omega
  constructor
  · unfold Sorted
    rw [List.pairwise_iff_getElem]
    intro i j hi hj hij
    exact key (j - i - 1) i _ _ (List.getElem?_eq_getElem hi) (by rw [show i + (j - i - 1 + 1) = j by omega]; exact List.getElem?_eq_getElem hj)
  · intro r hr
    obtain ⟨i, hi, rfl⟩ := List.mem_iff_getElem.1 hr
    exact (okAt_get (List.getElem?_eq_getElem hi) (hok i hi)).1

theorem greatB_false {L : List Rc} {most : Nat} (h : greatB L most = false) : L.length ≤ most ∧ rightB L = true := by
  unfold greatB at h
  simp only [Bool.or_eq_false_iff, decide_eq_false_iff_not, Bool.not_eq_false'] at h
  exact ⟨by omega, h.2.2⟩

/-- each number is less than the height's power -/
theorem height_lt {L : List Rc} (hs : Sorted L) : ∀ r ∈ L, r.uid < 16 ^ height L := by
  intro r hr
  have hne : L ≠ [] := List.ne_nil_of_mem hr
  have hl := List.getLast?_eq_some_getLast hne
  have hle : r.uid ≤ (L.getLast hne).uid := by
    obtain ⟨i, hi, rfl⟩ := List.mem_iff_getElem.1 hr
    rw [List.getLast_eq_getElem]
    rcases Nat.lt_or_ge i (L.length - 1) with h1 | h1
    · exact Nat.le_of_lt ((List.pairwise_iff_getElem.1 hs) i (L.length - 1) hi (by omega) h1)
    · have : i = L.length - 1 := by omega
      subst this; exact Nat.le_refl _
  have h1 : height L = need (L.getLast hne).uid := by unfold height; rw [hl]
  rw [h1]
  have := (need_le_iff (need (L.getLast hne).uid) (L.getLast hne).uid (need_pos _)).1 (Nat.le_refl _)
  omega

theorem standH_lt {L : List Rc} (hs : Sorted L) (hok : ∀ r ∈ L, r.uid < 4294967296) (more : Nat) : ∀ r ∈ L, r.uid / 16 ^ standH L more = 0 := by
  intro r hr
  refine Nat.div_eq_of_lt ?_
  have h1 := height_lt hs r hr
  have h2 := hok r hr
  unfold standH
  rcases Nat.le_total 8 (height L + more) with h3 | h3
  · rw [Nat.min_eq_left h3]; exact h2
  · rw [Nat.min_eq_right h3]
    exact Nat.lt_of_lt_of_le h1 (Nat.pow_le_pow_right (by omega) (by omega))

/-- Stand's tree is right -/
theorem stand_right {L : List Rc} (hne : L ≠ []) (hs : Sorted L) (hok : ∀ r ∈ L, r.uid < 4294967296) (gap more : Nat) : RightAt (stOf (standS L gap more)) (standH L more) (gap : Int) L := by
  refine bl_right _ gap (standH L more) L 0 0 hne hs (standH_lt hs hok more) (fun i r hi => ?_)
  unfold standS
  rw [List.getElem?_append_right (by simp), List.length_replicate, Nat.add_zero, Nat.add_sub_cancel_left, List.getElem?_map, hi]; rfl

theorem stand_small {L : List Rc} (hne : L ≠ []) (hlen : L.length ≤ 1000) (more : Nat) : (bl (standH L more) L 0).length ≤ 10000 ∧ SmallR (bl (standH L more) L 0) := by
  have h1 := bl_len (standH L more) L 0 hne
  have h2 : standH L more ≤ 8 := by unfold standH; omega
  have h3 : (standH L more + 1) * L.length ≤ 9 * L.length := Nat.mul_le_mul_right _ (by omega)
  exact ⟨by omega, bl_small 10000 (by omega) _ L 0 hne (by omega)⟩

theorem bl_counts : ∀ (h : Nat) (L : List Rc) (at_ N : Nat), L.length ≤ N → ∀ r ∈ bl h L at_, r.count ≤ N
  | 0, L, at_, N, hl, r, hr => by
    simp only [bl, List.mem_singleton] at hr
    subst hr
    simp [Rn.leafOf]
  | h + 1, L, at_, N, hl, r, hr => by
    rw [bl_succ] at hr
    generalize hT : accBl (bl h) h L at_ 16 = T at hr
    rcases List.mem_cons.1 hr with rfl | hr
    · exact hl
    · rw [← hT] at hr
      obtain ⟨e, h1, h2, h3⟩ := accBl_mem (bl h) h L at_ r 16 hr
      refine bl_counts h _ _ N ?_ r h3
      have : (part h e L).length ≤ L.length := List.length_filter_le _ _
      omega

theorem stand_counts {L : List Rc} (hlen : L.length ≤ 1000) (gap more : Nat) : Small (stOf (standS L gap more)) := by
  intro s n hn
  unfold stOf at hn
  split at hn
  · cases hn
  · cases hg : (standS L gap more)[s.toNat]? with
    | none => rw [hg] at hn; cases hn
    | some m =>
      rw [hg] at hn
      simp only [Option.bind_some] at hn
      split at hn
      · cases hn
      · obtain rfl := Option.some.inj hn
        have hm := List.mem_of_getElem? hg
        unfold standS at hm
        rcases List.mem_append.1 hm with hm | hm
        · rw [List.eq_of_mem_replicate hm]; simp [Nd.zero]
        · obtain ⟨r, hr, rfl⟩ := List.mem_map.1 hm
          have := bl_counts _ L 0 1000 hlen r hr
          unfold conv
          split
          · simp [Nd.leaf]
          · show (0 : Int) ≤ r.count ∧ (r.count : Int) ≤ 2147483648
            omega

end Go.Proofs.Ytnekbbmhjbjicaa

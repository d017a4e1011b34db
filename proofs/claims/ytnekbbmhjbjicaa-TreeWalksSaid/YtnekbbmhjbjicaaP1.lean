/- Plain laws of right trees: what is got by number, by rank; that Stand's trees are right. -/
import Derived.Test.YtnekbbmhjbjicaaA11
namespace Go.Proofs.Ytnekbbmhjbjicaa
open Go.RowKit

/-- a slot holds a right node of a rank less one, with just these messages -/
def RightAt (st : St) : Nat → Int → List Rc → Prop
  | 0, slot, L => ∃ n r, st slot = some n ∧ n.kind = 2 ∧ n.rc = r ∧ L = [r]
  | h + 1, slot, L => L ≠ [] ∧ ∃ n, st slot = some n ∧ n.kind = 1 ∧ n.count = L.length ∧
      ∀ d, d < 16 → (part h d L = [] ∧ n.kids d = -1) ∨ (part h d L ≠ [] ∧ RightAt st h (n.kids d) (part h d L))

theorem RightAt.bel {st : St} : ∀ {h : Nat} {slot : Int} {L : List Rc}, RightAt st h slot L → bel st slot = L.length
  | 0, slot, L, ⟨n, r, h1, h2, h3, h4⟩ => by simp [Ytnekbbmhjbjicaa.bel, h1, h2, h4]
  | h + 1, slot, L, ⟨h0, n, h1, h2, h3, h4⟩ => by simp [Ytnekbbmhjbjicaa.bel, h1, h2, h3]

theorem RightAt.ne {st : St} : ∀ {h : Nat} {slot : Int} {L : List Rc}, RightAt st h slot L → L ≠ []
  | 0, slot, L, ⟨n, r, h1, h2, h3, h4⟩ => by simp [h4]
  | h + 1, slot, L, ⟨h0, _⟩ => h0

/-- a slot of a right branch -/
def KidAt (st : St) (h : Nat) (slot : Int) (L : List Rc) : Prop := (L = [] ∧ slot = -1) ∨ (L ≠ [] ∧ RightAt st h slot L)
theorem KidAt.bel {st : St} (hl : st (-1) = none) {h : Nat} {slot : Int} {L : List Rc} (hk : KidAt st h slot L) : bel st slot = L.length := by
  rcases hk with ⟨rfl, rfl⟩ | ⟨_, hr⟩
  · simp [Ytnekbbmhjbjicaa.bel, hl]
  · exact hr.bel

theorem dig_mod (u h : Nat) : u % 16 ^ (h + 1) = dig u h * 16 ^ h + u % 16 ^ h := by
  unfold dig
  rw [Nat.pow_succ, Nat.mod_mul, Nat.mul_comm, Nat.add_comm]
theorem dig_mod_eq {u v h : Nat} : u % 16 ^ (h + 1) = v % 16 ^ (h + 1) ↔ dig u h = dig v h ∧ u % 16 ^ h = v % 16 ^ h := by
  rw [dig_mod, dig_mod]
  have hp : 0 < 16 ^ h := Nat.pow_pos (by omega)
  have h1 := Nat.mod_lt u hp
  have h2 := Nat.mod_lt v hp
  constructor
  · intro e
    have e1 : (dig u h * 16 ^ h + u % 16 ^ h) / 16 ^ h = (dig v h * 16 ^ h + v % 16 ^ h) / 16 ^ h := by rw [e]
    rw [Nat.mul_comm, Nat.mul_add_div hp, Nat.div_eq_of_lt h1, Nat.mul_comm, Nat.mul_add_div hp, Nat.div_eq_of_lt h2] at e1
    have e2 : dig u h = dig v h := by omega
    rw [e2] at e
    exact ⟨e2, by omega⟩
  · rintro ⟨e1, e2⟩
    rw [e1, e2]
theorem dig_mod_lt {u v h : Nat} : u % 16 ^ (h + 1) < v % 16 ^ (h + 1) ↔ dig u h < dig v h ∨ (dig u h = dig v h ∧ u % 16 ^ h < v % 16 ^ h) := by
  rw [dig_mod, dig_mod]
  have hp : 0 < 16 ^ h := Nat.pow_pos (by omega)
  have h1 := Nat.mod_lt u hp
  have h2 := Nat.mod_lt v hp
  rcases Nat.lt_trichotomy (dig u h) (dig v h) with hlt | heq | hgt
  · have : (dig u h + 1) * 16 ^ h ≤ dig v h * 16 ^ h := Nat.mul_le_mul_right _ hlt
    rw [Nat.add_mul] at this
    constructor
    · intro _; exact .inl hlt
    · intro _; omega
  · rw [heq]
    constructor
    · intro h3; exact .inr ⟨rfl, by omega⟩
    · rintro (h3 | h3) <;> omega
  · have : (dig v h + 1) * 16 ^ h ≤ dig u h * 16 ^ h := Nat.mul_le_mul_right _ hgt
    rw [Nat.add_mul] at this
    constructor
    · intro _; omega
    · rintro (h3 | h3) <;> omega

/-! ### by number -/
theorem getL_less {st : St} (hl : st (-1) = none) (u : Nat) : ∀ h, getL st u h (-1) = none
  | 0 => hl
  | h + 1 => by simp [getL, hl]

theorem find_part (L : List Rc) (h d : Nat) (q : Rc → Bool) : (part h d L).find? q = L.find? (fun r => dig r.uid h == d && q r) := by
  unfold part
  rw [List.find?_filter]
  congr 1
  funext r
  rw [Bool.eq_iff_iff]
  simp

theorem RightAt.get {st : St} (hl : st (-1) = none) (u : Nat) : ∀ {h : Nat} {slot : Int} {L : List Rc}, RightAt st h slot L →
    (getL st u h slot).map (·.rc) = L.find? (fun r => r.uid % 16 ^ h == u % 16 ^ h)
  | 0, slot, L, ⟨n, r, h1, h2, h3, h4⟩ => by simp [getL, h1, h4, h3, Nat.mod_one]
  | h + 1, slot, L, ⟨h0, n, h1, h2, h3, h4⟩ => by
    have e1 : getL st u (h + 1) slot = getL st u h (n.kids (dig u h)) := by simp [getL, h1]
    have e2 : L.find? (fun r => r.uid % 16 ^ (h + 1) == u % 16 ^ (h + 1)) = (part h (dig u h) L).find? (fun r => r.uid % 16 ^ h == u % 16 ^ h) := by
      rw [find_part]
      congr 1
      funext r
      rw [Bool.eq_iff_iff]
      simp only [beq_iff_eq, Bool.and_eq_true]
      exact dig_mod_eq
    rw [e1, e2]
    rcases h4 (dig u h) (dig_lt u h) with ⟨h5, h6⟩ | ⟨h5, h6⟩
    · rw [h5, h6, getL_less hl]; rfl
    · exact h6.get hl u

/-! ### by rank -/
theorem RightAt.belSum {st : St} (hl : st (-1) = none) {h : Nat} {L : List Rc} {n : Nd} (h4 : ∀ d, d < 16 → KidAt st h (n.kids d) (part h d L)) : ∀ d, d ≤ 16 →
    belSum st n.kids d = (L.countP (fun r => decide (dig r.uid h < d)) : Nat)
  | 0, _ => by simp [Ytnekbbmhjbjicaa.belSum]
  | d + 1, hd => by
    rw [Ytnekbbmhjbjicaa.belSum, RightAt.belSum hl h4 d (by omega), (h4 d (by omega)).bel hl]
    have : L.countP (fun r => decide (dig r.uid h < d + 1)) = L.countP (fun r => decide (dig r.uid h < d)) + (part h d L).length := by
      unfold part
      rw [← List.countP_eq_length_filter]
      clear h4
      induction L with
      | nil => rfl
      | cons a L ih =>
        rw [List.countP_cons, List.countP_cons, List.countP_cons, ih]
        by_cases h1 : dig a.uid h < d
        · have h2 : dig a.uid h < d + 1 := by omega
          have h3 : dig a.uid h ≠ d := by omega
          simp [h1, h2, h3]; omega
        · by_cases h2 : dig a.uid h = d
          · have h3 : dig a.uid h < d + 1 := by omega
            simp [h2]; omega
          · have h3 : ¬ dig a.uid h < d + 1 := by omega
            simp [h1, h2, h3]
    rw [this]; omega

theorem rankL_less {st : St} (hl : st (-1) = none) (u : Nat) : ∀ h, rankL st u h (-1) = 0
  | 0 => rfl
  | h + 1 => by simp [rankL, hl]

theorem RightAt.rank {st : St} (hl : st (-1) = none) (u : Nat) : ∀ {h : Nat} {slot : Int} {L : List Rc}, RightAt st h slot L →
    rankL st u h slot = (L.countP (fun r => decide (r.uid % 16 ^ h < u % 16 ^ h)) : Nat)
  | 0, slot, L, _ => by
    simp only [rankL, Nat.pow_zero, Nat.mod_one]
    simp
  | h + 1, slot, L, ⟨h0, n, h1, h2, h3, h4⟩ => by
    have e1 : rankL st u (h + 1) slot = Ytnekbbmhjbjicaa.belSum st n.kids (dig u h) + rankL st u h (n.kids (dig u h)) := by simp [rankL, h1]
    have hd := dig_lt u h
    have e3 : rankL st u h (n.kids (dig u h)) = ((part h (dig u h) L).countP (fun r => decide (r.uid % 16 ^ h < u % 16 ^ h)) : Nat) := by
      rcases h4 (dig u h) hd with ⟨h5, h6⟩ | ⟨h5, h6⟩
      · rw [h5, h6, rankL_less hl]; rfl
      · exact h6.rank hl u
    rw [e1, RightAt.belSum hl h4 _ (by omega), e3]
    have : L.countP (fun r => decide (r.uid % 16 ^ (h + 1) < u % 16 ^ (h + 1))) = L.countP (fun r => decide (dig r.uid h < dig u h)) + (part h (dig u h) L).countP (fun r => decide (r.uid % 16 ^ h < u % 16 ^ h)) := by
      unfold part
      rw [List.countP_filter]
      clear h4 e3 h3 h0
      induction L with
      | nil => rfl
      | cons a L ih =>
        rw [List.countP_cons, List.countP_cons, List.countP_cons, ih]
        have key := @dig_mod_lt a.uid u h
        by_cases h1 : dig a.uid h < dig u h
        · have h3 : dig a.uid h ≠ dig u h := by omega
          have h2 := key.2 (.inl h1)
          simp [h1, h2, h3]; omega
        · by_cases h2 : dig a.uid h = dig u h
          · by_cases h5 : a.uid % 16 ^ h < u % 16 ^ h
            · have h6 := key.2 (.inr ⟨h2, h5⟩)
              simp [h2, h5, h6]; omega
            · have h6 : ¬ a.uid % 16 ^ (h + 1) < u % 16 ^ (h + 1) := fun e => by rcases key.1 e with h7 | h7 <;> omega
              simp [h2, h5, h6]
          · have h6 : ¬ a.uid % 16 ^ (h + 1) < u % 16 ^ (h + 1) := fun e => by rcases key.1 e with h7 | h7 <;> omega
            simp [h1, h2, h6]
    rw [this]; omega

/-! ### the k-th -/
theorem nth_mono (f : Rc → Nat) : ∀ (L : List Rc), L.Pairwise (fun a b => f a ≤ f b) → ∀ (k : Nat) (r : Rc), L[k]? = some r →
    L.countP (fun x => decide (f x < f r)) ≤ k ∧ k < L.countP (fun x => decide (f x < f r + 1)) ∧ (L.filter (fun x => f x == f r))[k - L.countP (fun x => decide (f x < f r))]? = some r
  | [], _, k, r, h => by simp at h
  | a :: L, hp, 0, r, h => by
    simp at h; subst h
    have hz : L.countP (fun x => decide (f x < f a)) = 0 := by
      rw [List.countP_eq_zero]
      intro b hb
      have := (List.pairwise_cons.1 hp).1 b hb
      simp; omega
    rw [List.countP_cons, hz]
    simp
  | a :: L, hp, k + 1, r, h => by
    have h' : L[k]? = some r := by simpa using h
    have hp' := (List.pairwise_cons.1 hp).2
    have har : f a ≤ f r := (List.pairwise_cons.1 hp).1 r (List.mem_of_getElem? h')
    obtain ⟨i1, i2, i3⟩ := nth_mono f L hp' k r h'
    rw [List.countP_cons, List.countP_cons]
    by_cases e : f a < f r
    · have e2 : f a < f r + 1 := by omega
      have e3 : f a ≠ f r := by omega
      simp only [e, e2, decide_true, if_true]
      refine ⟨by omega, by omega, ?_⟩
      rw [List.filter_cons_of_neg (by simpa using e3), Nat.add_sub_add_right]
      exact i3
    · have e2 : f a = f r := by omega
      have e3 : f a < f r + 1 := by omega
      have hz : L.countP (fun x => decide (f x < f r)) = 0 := by
        rw [List.countP_eq_zero]
        intro b hb
        have := (List.pairwise_cons.1 hp).1 b hb
        simp; omega
      simp only [e, e3, decide_false, decide_true, if_true, hz] at i2 i3 ⊢
      refine ⟨by simp, by omega, ?_⟩
      rw [List.filter_cons_of_pos (by simpa using e2)]
      simpa using i3

/-- by their numbers -/
def Sorted (L : List Rc) : Prop := L.Pairwise (fun a b => a.uid < b.uid)
theorem Sorted.part {L : List Rc} (h : Sorted L) (r d : Nat) : Sorted (part r d L) := List.Pairwise.filter _ h
theorem Sorted.dig {L : List Rc} (hs : Sorted L) {h p : Nat} (hp : ∀ r ∈ L, r.uid / 16 ^ (h + 1) = p) : L.Pairwise (fun a b => dig a.uid h ≤ dig b.uid h) := by
  refine List.Pairwise.imp_of_mem ?_ hs
  intro a b ha hb hab
  have h1 := hp a ha
  have h2 := hp b hb
  unfold Ytnekbbmhjbjicaa.dig
  rw [dig_succ] at h1 h2
  have h3 : a.uid / 16 ^ h ≤ b.uid / 16 ^ h := Nat.div_le_div_right (Nat.le_of_lt hab)
  omega
theorem pre_part {L : List Rc} {h p d : Nat} (hp : ∀ r ∈ L, r.uid / 16 ^ (h + 1) = p) : ∀ r ∈ part h d L, r.uid / 16 ^ h = 16 * p + d := by
  intro r hr
  unfold part at hr
  obtain ⟨h1, h2⟩ := List.mem_filter.1 hr
  have h3 := hp r h1
  rw [dig_succ] at h3
  have h4 : dig r.uid h = d := by simpa using h2
  unfold dig at h4
  omega

theorem RightAt.picks {st : St} (hl : st (-1) = none) : ∀ {h : Nat} {slot : Int} {L : List Rc} {p : Nat}, RightAt st h slot L → Sorted L → (∀ r ∈ L, r.uid / 16 ^ h = p) → ∀ (k : Nat) (r : Rc), L[k]? = some r →
    ∃ n m, st slot = some n ∧ m.rc = r ∧ Picks st h n k m
  | 0, slot, L, p, ⟨n, r, h1, h2, h3, h4⟩, _, _, k, x, hk => by
    subst h4
    rcases k with _ | k
    · simp at hk; exact ⟨n, n, h1, by rw [h3, hk], rfl⟩
    · simp at hk
  | h + 1, slot, L, p, ⟨h0, n, h1, h2, h3, h4⟩, hs, hp, k, x, hk => by
    obtain ⟨i1, i2, i3⟩ := nth_mono (fun r => dig r.uid h) L (hs.dig hp) k x hk
    have hd := dig_lt x.uid h
    have hb0 := RightAt.belSum hl h4 (dig x.uid h) (by omega)
    have hb1 := RightAt.belSum hl h4 (dig x.uid h + 1) (by omega)
    rcases h4 (dig x.uid h) hd with ⟨h5, h6⟩ | ⟨h5, h6⟩
    · have : (part h (dig x.uid h) L)[k - L.countP (fun y => decide (dig y.uid h < dig x.uid h))]? = some x := i3
      rw [h5] at this; simp at this
    · obtain ⟨n', m, j1, j2, j3⟩ := h6.picks hl (hs.part h _) (pre_part hp) _ x i3
      refine ⟨n, m, h1, j2, dig x.uid h, n', hd, by rw [hb0]; omega, by rw [hb1]; omega, j1, ?_⟩
      have e : (k : Int) - Ytnekbbmhjbjicaa.belSum st n.kids (dig x.uid h) = ((k - L.countP (fun y => decide (dig y.uid h < dig x.uid h)) : Nat) : Int) := by rw [hb0]; omega
      rw [e]; exact j3

/-! ### Stand's trees -/
theorem accBl_get (f : List Rc → Nat → List Rn) (h : Nat) (L : List Rc) (at_ : Nat) {d e i : Nat} {r : Rn} (hde : d ≤ e) (hi : (accBl f h L at_ d)[i]? = some r) : (accBl f h L at_ e)[i]? = some r := by
  induction e with
  | zero => obtain rfl : d = 0 := by omega
            exact hi
  | succ e ih =>
    rcases Nat.lt_or_ge d (e + 1) with h1 | h1
    · have h2 := ih (by omega)
      rw [accBl, List.getElem?_append_left (List.getElem?_eq_some_iff.1 h2).1]
      exact h2
    · obtain rfl : d = e + 1 := by omega
      exact hi
theorem accBl_sub (f : List Rc → Nat → List Rn) (h : Nat) (L : List Rc) (at_ d i : Nat) (r : Rn) (hd : d < 16) (hne : part h d L ≠ []) (hi : (f (part h d L) (at_ + 1 + (accBl f h L at_ d).length))[i]? = some r) :
    (accBl f h L at_ 16)[(accBl f h L at_ d).length + i]? = some r := by
  refine accBl_get f h L at_ (d := d + 1) (by omega) ?_
  rw [accBl, if_neg hne, List.getElem?_append_right (by omega), Nat.add_sub_cancel_left]
  exact hi

theorem bl_succ (h : Nat) (L : List Rc) (at_ : Nat) : bl (h + 1) L at_ = ⟨false, L.length, kidBl (bl h) h L at_, Rc.zero⟩ :: accBl (bl h) h L at_ 16 := by rw [bl]

theorem conv_leaf (gap : Nat) (r : Rc) : conv gap (Rn.leafOf r) = Nd.leaf r := rfl

theorem bl_right (sh : List Nd) (gap : Nat) : ∀ (h : Nat) (L : List Rc) (at_ : Nat) (p : Nat), L ≠ [] → Sorted L → (∀ r ∈ L, r.uid / 16 ^ h = p) → (∀ i r, (bl h L at_)[i]? = some r → sh[gap + at_ + i]? = some (conv gap r)) →
    RightAt (stOf sh) h ((gap + at_ : Nat) : Int) L
  | 0, L, at_, p, hne, hs, hp, hsh => by
    match L, hne with
    | [r], _ =>
      have h1 := hsh 0 _ rfl
      have h2 := stOf_in h1
      exact ⟨Nd.leaf r, r, h2, rfl, rfl, rfl⟩
    | a :: b :: L, _ =>
      have h1 := hp a (by simp)
      have h2 := hp b (by simp)
      have h3 := (List.pairwise_cons.1 hs).1 b (by simp)
      simp at h1 h2
      omega
  | h + 1, L, at_, p, hne, hs, hp, hsh => by
    rw [bl_succ] at hsh
    generalize hT : accBl (bl h) h L at_ 16 = T at hsh
    have h1 := hsh 0 _ rfl
    have h2 := stOf_in h1
    refine ⟨hne, _, h2, rfl, rfl, fun d hd => ?_⟩
    by_cases hpe : part h d L = []
    · refine .inl ⟨hpe, ?_⟩
      show (if 0 ≤ kidBl (bl h) h L at_ d then kidBl (bl h) h L at_ d + gap else kidBl (bl h) h L at_ d) = -1
      rw [kidBl, if_pos hpe]; rfl
    · refine .inr ⟨hpe, ?_⟩
      have e : (conv gap ⟨false, L.length, kidBl (bl h) h L at_, Rc.zero⟩).kids d = ((gap + (at_ + 1 + (accBl (bl h) h L at_ d).length) : Nat) : Int) := by
        show (if 0 ≤ kidBl (bl h) h L at_ d then kidBl (bl h) h L at_ d + gap else kidBl (bl h) h L at_ d) = _
        rw [kidBl, if_neg hpe, if_pos (by omega)]; omega
      rw [e]
      refine bl_right sh gap h (part h d L) _ (16 * p + d) hpe (hs.part h d) (pre_part hp) (fun i r hi => ?_)
      have h3 := accBl_sub (bl h) h L at_ d i r hd hpe hi
      rw [hT] at h3
      have h4 := hsh (1 + ((accBl (bl h) h L at_ d).length + i)) r (by
        rw [Nat.add_comm 1, List.getElem?_cons_succ]
        exact h3)
      rw [← h4]; congr 1; omega

end Go.Proofs.Ytnekbbmhjbjicaa

/- Plain laws of numbers' texts. -/
import Derived.Test.YtmgifbibhodbbaaDoorM
import Derived.Lib.ParseIntB
import Derived.Lib.ItoaNum
namespace Go.Proofs.YtmgifbibhodbbaaDoor

theorem snoc_ind {P : List UInt8 → Prop} (h0 : P []) (h1 : ∀ r c, P r → P (r ++ [c])) (l : List UInt8) : P l := by
  have h : ∀ m : List UInt8, P m.reverse := by
    intro m
    induction m with
    | nil => exact h0
    | cons c m ih => rw [List.reverse_cons]; exact h1 _ c ih
  have := h l.reverse
  rwa [List.reverse_reverse] at this

theorem num_snoc (l : List UInt8) (c : UInt8) : num (l ++ [c]) = 10 * num l + (c.toNat - 48) := by simp [num]

theorem digB_iff (c : UInt8) : digB c = true ↔ 48 ≤ c.toNat ∧ c.toNat ≤ 57 := by
  simp [digB, UInt8.le_iff_toNat_le]

theorem decDigits_small {u : Nat} (h : u < 10) : Lib.decDigits u = [UInt8.ofNat (48 + u)] := by rw [Lib.decDigits, dif_pos h]
theorem decDigits_big {u : Nat} (h : ¬ u < 10) : Lib.decDigits u = Lib.decDigits (u / 10) ++ [UInt8.ofNat (48 + u % 10)] := by rw [Lib.decDigits, dif_neg h]

theorem decDigits_ne (u : Nat) : Lib.decDigits u ≠ [] := by
  by_cases h : u < 10
  · rw [decDigits_small h]; simp
  · rw [decDigits_big h]; simp

theorem decDigits_head (u : Nat) (h : 1 ≤ u) : (Lib.decDigits u).head? ≠ some 48 := by
  induction u using Nat.strongRecOn with
  | _ u ih =>
    by_cases hu : u < 10
    · rw [decDigits_small hu]
      have : ∀ n, n < 10 → 1 ≤ n → ([UInt8.ofNat (48 + n)] : List UInt8).head? ≠ some 48 := by decide
      exact this u hu h
    · rw [decDigits_big hu]
      have := ih (u / 10) (by omega) (by omega)
      rcases hd : Lib.decDigits (u / 10) with _ | ⟨c, r⟩
      · exact absurd hd (decDigits_ne _)
      · rw [hd] at this; simpa using this

theorem num_pos : ∀ (l : List UInt8), (∀ c ∈ l, digB c = true) → l ≠ [] → l.head? ≠ some 48 → 1 ≤ num l := by
  intro l
  refine snoc_ind (P := fun l => (∀ c ∈ l, digB c = true) → l ≠ [] → l.head? ≠ some 48 → 1 ≤ num l) (by simp) (fun r c ih => ?_) l
  · intro hd _ hh
    rw [num_snoc]
    rcases r with _ | ⟨d, r⟩
    · have := (digB_iff c).1 (hd c (by simp))
      have h48 : c ≠ 48 := by simpa using hh
      have : c.toNat ≠ 48 := fun e => h48 (UInt8.toNat_inj.1 e)
      simp [num]; omega
    · have := ih (fun x hx => hd x (by simp at hx ⊢; rcases hx with h | h <;> simp [h])) (by simp) (by simpa using hh)
      omega

theorem decDigits_num : ∀ (l : List UInt8), (∀ c ∈ l, digB c = true) → l ≠ [] → (l.length = 1 ∨ l.head? ≠ some 48) → Lib.decDigits (num l) = l := by
  intro l
  refine snoc_ind (P := fun l => (∀ c ∈ l, digB c = true) → l ≠ [] → (l.length = 1 ∨ l.head? ≠ some 48) → Lib.decDigits (num l) = l) (by simp) (fun r c ih => ?_) l
  · intro hd _ hh
    have hc := (digB_iff c).1 (hd c (by simp))
    have hr : ∀ x ∈ r, digB x = true := fun x hx => hd x (by simp [hx])
    rw [num_snoc]
    rcases r with _ | ⟨d, r⟩
    · have e : (10 * num [] + (c.toNat - 48)) = c.toNat - 48 := by simp [num]
      rw [e, decDigits_small (by omega), show 48 + (c.toNat - 48) = c.toNat by omega, UInt8.ofNat_toNat]; rfl
    · have hh' : (d :: r).head? ≠ some 48 := by
        rcases hh with h | h
        · simp at h
        · simpa using h
      have h1 := num_pos (d :: r) hr (by simp) hh'
      rw [decDigits_big (by omega), show (10 * num (d :: r) + (c.toNat - 48)) / 10 = num (d :: r) by omega, show 48 + (10 * num (d :: r) + (c.toNat - 48)) % 10 = c.toNat by omega, UInt8.ofNat_toNat, ih hr (by simp) (.inr hh')]

theorem nDigits_le : ∀ (k u : Nat), u < 10 ^ (k + 1) → (Lib.decDigits u).length ≤ k + 1
  | 0, u, h => by rw [decDigits_small (by simpa using h)]; simp
  | k + 1, u, h => by
    by_cases hu : u < 10
    · rw [decDigits_small hu]; simp
    · rw [decDigits_big hu]
      have := nDigits_le k (u / 10) (by rw [Nat.pow_succ] at h; omega)
      simp; omega

/-- a row of digits is written as it is read just where it is a number's text -/
theorem numOk_iff (l : List UInt8) (hd : ∀ c ∈ l, digB c = true) (hne : l ≠ []) (hu : num l ≤ 4294967295) : numOk l = decide (Lib.decDigits (num l) = l) := by
  have hlen : 1 ≤ l.length := by cases l with | nil => exact absurd rfl hne | cons => simp
  rw [Bool.eq_iff_iff]
  simp only [numOk, Bool.and_eq_true, Bool.not_eq_true', decide_eq_true_eq, Bool.and_eq_false_iff, decide_eq_false_iff_not, beq_eq_false_iff_ne]
  constructor
  · rintro ⟨⟨⟨_, _⟩, h⟩, _⟩
    refine decDigits_num l hd hne ?_
    rcases h with h | h
    · left; omega
    · right; exact h
  · intro h
    have h10 : l.length ≤ 10 := by
      have := nDigits_le 9 (num l) (by omega)
      rw [h] at this; omega
    refine ⟨⟨⟨hlen, h10⟩, ?_⟩, hu⟩
    by_cases h1 : 1 < l.length
    · right
      have hn : 1 ≤ num l := by
        rcases Nat.eq_zero_or_pos (num l) with h0 | h0
        · rw [h0, decDigits_small (by omega)] at h
          rw [← h] at h1; simp at h1
        · exact h0
      have := decDigits_head (num l) hn
      rwa [h] at this
    · left; exact h1

theorem num_foldl : ∀ (l : List UInt8) (a : Nat), a ≤ l.foldl (fun n c => 10 * n + (c.toNat - 48)) a
  | [], a => Nat.le_refl _
  | c :: r, a => by
    have := num_foldl r (10 * a + (c.toNat - 48))
    simp only [List.foldl_cons]; omega

theorem parseM : ∀ (l : List UInt8) (a : Nat), (∀ c ∈ l, digB c = true) → a ≤ 4294967295 →
    Lib.parseUintM (2 ^ 32 - 1) a l = if l.foldl (fun n c => 10 * n + (c.toNat - 48)) a ≤ 4294967295 then .ok (l.foldl (fun n c => 10 * n + (c.toNat - 48)) a) else .range
  | [], a, _, ha => by simp [Lib.parseUintM, ha]
  | c :: r, a, hd, ha => by
    have hc := (digB_iff c).1 (hd c (by simp))
    have hr : ∀ x ∈ r, digB x = true := fun x hx => hd x (by simp [hx])
    have e : (c :: r).foldl (fun n c => 10 * n + (c.toNat - 48)) a = r.foldl (fun n c => 10 * n + (c.toNat - 48)) (10 * a + (c.toNat - 48)) := rfl
    rw [e]
    unfold Lib.parseUintM
    rw [if_pos hc, if_neg (by omega), Nat.mul_comm a 10]
    by_cases h : 2 ^ 32 - 1 < 10 * a + (c.toNat - 48)
    · have := num_foldl r (10 * a + (c.toNat - 48))
      rw [if_pos h, if_neg (by omega)]
    · rw [if_neg h]
      exact parseM r _ hr (by omega)

/-- ParseUint at a row of digits -/
theorem parse_digits (l : List UInt8) (hd : ∀ c ∈ l, digB c = true) (hne : l ≠ []) : Lib.parseUintB 32 l = if num l ≤ 4294967295 then .ok (num l) else .range := by
  unfold Lib.parseUintB
  rw [if_neg hne, parseM l 0 hd (by omega)]; rfl

theorem tw_dig (l : List UInt8) : ∀ c ∈ l.takeWhile digB, digB c = true := by
  induction l with
  | nil => simp
  | cons d r ih =>
    by_cases h : digB d
    · simp only [List.takeWhile_cons, h, if_true, List.mem_cons]
      rintro c (rfl | hc)
      · exact h
      · exact ih c hc
    · simp [h]

end Go.Proofs.YtmgifbibhodbbaaDoor

/- The plain model of a reader: bytes that are left, and whether it gave up. -/
import Derived.WalkKit
namespace Go.Proofs.YtmgifbibhodbbaaDoor

/-- a byte as a great letter -/
def upB (c : UInt8) : UInt8 := if 97 ≤ c ∧ c ≤ 122 then c - 32 else c
def up (l : List UInt8) : List UInt8 := l.map upB
/-- may a byte stand in an atom? -/
def atomB (c : UInt8) : Bool := decide (33 ≤ c) && decide (c ≤ 126) && !(c == 40 || c == 41 || c == 123 || c == 37 || c == 42 || c == 34 || c == 92 || c == 93)
/-- is a byte a digit? -/
def digB (c : UInt8) : Bool := decide (48 ≤ c) && decide (c ≤ 57)
/-- the number of digits -/
def num (l : List UInt8) : Nat := l.foldl (fun n c => 10 * n + (c.toNat - 48)) 0
/-- is it a number's text? (digits alone) -/
def numOk (l : List UInt8) : Bool := decide (1 ≤ l.length) && decide (l.length ≤ 10) && !(decide (1 < l.length) && l.head? == some 48) && decide (num l ≤ 4294967295)

/-- a reader's state: what is left, whether it gave up -/
abbrev Sta := List UInt8 × Bool

def pNeed (b : Bool) (s : Sta) : Sta := if b then s else ([], true)
def pAtom (s : Sta) : List UInt8 × Sta :=
  (s.1.takeWhile atomB, pNeed (!(s.1.takeWhile atomB).isEmpty) (s.1.dropWhile atomB, s.2))
def pNumber (s : Sta) : Nat × Sta :=
  if numOk (s.1.takeWhile digB) then (num (s.1.takeWhile digB), (s.1.dropWhile digB, s.2)) else (0, ([], true))
def wordB (w : List UInt8) (s : Sta) : Bool := !s.2 && decide (w.length ≤ s.1.length) && (up (s.1.take w.length) == up w)
def pWord (w : List UInt8) (s : Sta) : Sta := if wordB w s then (s.1.drop w.length, s.2) else s
def pMust (w : List UInt8) (s : Sta) : Sta := pNeed (wordB w s) (pWord w s)
def nextB (c : UInt8) (s : Sta) : Bool := s.1.head? == some c
/-- the state behind a literal's head -/
def litS (s : Sta) : Sta :=
  pNeed (decide ((pNumber (pMust [123] s)).1 ≤ 65536 ∧ (pNumber (pMust [123] s)).1 ≤ (pMust [125, 13, 10] (pNumber (pMust [123] s)).2).1.length))
    (pMust [125, 13, 10] (pNumber (pMust [123] s)).2)
def litN (s : Sta) : Nat := (pNumber (pMust [123] s)).1
def pLit (s : Sta) : List UInt8 × Sta := if (litS s).2 then ([], litS s) else ((litS s).1.take (litN s), ((litS s).1.drop (litN s), (litS s).2))
/-- what stands ahead of a quote, and what behind it -/
def qscan : List UInt8 → Option (List UInt8 × List UInt8)
  | [] => none
  | c :: r =>
    if c = 34 then some ([], r)
    else if c = 13 ∨ c = 10 then none
    else if c = 92 then
      match r with
      | [] => none
      | d :: r' => if d = 34 ∨ d = 92 then (qscan r').map (fun x => (d :: x.1, x.2)) else none
    else (qscan r).map (fun x => (c :: x.1, x.2))
def pQuoted (s : Sta) : List UInt8 × Sta :=
  match qscan s.1.tail with
  | some x => (x.1, (x.2, s.2))
  | none => ([], ([], true))
def pString (s : Sta) : List UInt8 × Sta := if nextB 34 s then pQuoted s else if nextB 123 s then pLit s else pAtom s

/-- who gave up has nothing left -/
def Sta.ok (s : Sta) : Prop := s.2 = true → s.1 = []

theorem Sta.ok_fail : Sta.ok ([], true) := fun _ => rfl
theorem pNeed_ok {b : Bool} {s : Sta} (h : s.ok) : (pNeed b s).ok := by unfold pNeed; split; exact h; exact Sta.ok_fail
theorem drop_ok {s : Sta} (h : s.ok) (n : Nat) : Sta.ok (s.1.drop n, s.2) := fun e => by have := h e; simp [this]
theorem dropWhile_ok {s : Sta} (h : s.ok) (p : UInt8 → Bool) : Sta.ok (s.1.dropWhile p, s.2) := fun e => by have := h e; simp [this]
theorem pAtom_ok {s : Sta} (h : s.ok) : (pAtom s).2.ok := pNeed_ok (dropWhile_ok h _)
theorem pNumber_ok {s : Sta} (h : s.ok) : (pNumber s).2.ok := by unfold pNumber; split; exact dropWhile_ok h _; exact Sta.ok_fail
theorem pWord_ok {s : Sta} (h : s.ok) (w : List UInt8) : (pWord w s).ok := by unfold pWord; split; exact drop_ok h _; exact h
theorem pMust_ok {s : Sta} (h : s.ok) (w : List UInt8) : (pMust w s).ok := pNeed_ok (pWord_ok h w)
theorem litS_ok {s : Sta} (h : s.ok) : (litS s).ok := pNeed_ok (pMust_ok (pNumber_ok (pMust_ok h _)) _)
theorem pLit_ok {s : Sta} (h : s.ok) : (pLit s).2.ok := by unfold pLit; split; exact litS_ok h; exact drop_ok (litS_ok h) _

theorem pNeed_len (b : Bool) (s : Sta) : (pNeed b s).1.length ≤ s.1.length := by unfold pNeed; split <;> simp
theorem pWord_len (w : List UInt8) (s : Sta) : (pWord w s).1.length ≤ s.1.length := by unfold pWord; split <;> simp
theorem pMust_len (w : List UInt8) (s : Sta) : (pMust w s).1.length ≤ s.1.length := Nat.le_trans (pNeed_len _ _) (pWord_len w s)
theorem dropWhile_len (p : UInt8 → Bool) (l : List UInt8) : (l.dropWhile p).length ≤ l.length := by
  induction l with
  | nil => simp
  | cons c r ih => by_cases h : p c <;> simp [h]; omega
theorem pNumber_len (s : Sta) : (pNumber s).2.1.length ≤ s.1.length := by
  unfold pNumber; split
  · exact dropWhile_len _ _
  · simp
theorem pNumber_le (s : Sta) : (pNumber s).1 ≤ 4294967295 := by
  unfold pNumber; split
  · next h => simp only [numOk, Bool.and_eq_true, decide_eq_true_eq] at h; exact h.2
  · simp
theorem pAtom_len (s : Sta) : (pAtom s).2.1.length ≤ s.1.length := Nat.le_trans (pNeed_len _ _) (dropWhile_len _ _)
theorem litS_len (s : Sta) : (litS s).1.length ≤ s.1.length :=
  Nat.le_trans (pNeed_len _ _) (Nat.le_trans (pMust_len _ _) (Nat.le_trans (pNumber_len _) (pMust_len _ _)))
theorem pLit_len (s : Sta) : (pLit s).2.1.length ≤ s.1.length := by
  unfold pLit; split
  · exact litS_len s
  · exact Nat.le_trans (by simp) (litS_len s)
theorem litN_le (s : Sta) (h : (litS s).2 = false) : litN s ≤ (litS s).1.length := by
  unfold litS pNeed at *
  split at h
  · next hc =>
    rw [if_pos hc]
    simp only [decide_eq_true_eq] at hc
    exact hc.2
  · simp at h

theorem dropWhile_eq_drop (p : UInt8 → Bool) (l : List UInt8) : l.dropWhile p = l.drop (l.takeWhile p).length := by
  induction l with
  | nil => rfl
  | cons c r ih => by_cases h : p c <;> simp [h, ih]
theorem takeWhile_eq_take (p : UInt8 → Bool) (l : List UInt8) : l.takeWhile p = l.take (l.takeWhile p).length := by
  induction l with
  | nil => rfl
  | cons c r ih => by_cases h : p c <;> simp [h]; exact ih
theorem takeWhile_le (p : UInt8 → Bool) (l : List UInt8) : (l.takeWhile p).length ≤ l.length := by
  induction l with
  | nil => simp
  | cons c r ih => by_cases h : p c <;> simp [h]; exact ih

theorem tw_get (p : UInt8 → Bool) : ∀ (l : List UInt8) (k : Nat) (h : k < l.length), k < (l.takeWhile p).length → p l[k] = true
  | [], k, h, _ => by simp at h
  | c :: r, k, h, hk => by
    by_cases hc : p c
    · rcases k with _ | k
      · simpa using hc
      · simp [hc] at hk
        simpa using tw_get p r k (by simpa using h) hk
    · simp [hc] at hk
theorem tw_yes (p : UInt8 → Bool) : ∀ (l : List UInt8) (k : Nat) (h : k < l.length), k ≤ (l.takeWhile p).length → p l[k] = true → k + 1 ≤ (l.takeWhile p).length
  | [], k, h, _, _ => by simp at h
  | c :: r, k, h, hk, hp => by
    by_cases hc : p c
    · rcases k with _ | k
      · simp [hc]
      · simp [hc] at hk ⊢
        exact tw_yes p r k (by simpa using h) hk (by simpa using hp)
    · simp [hc] at hk
      subst hk
      simp at hp; exact absurd hp hc
theorem tw_no (p : UInt8 → Bool) (l : List UInt8) (k : Nat) (h : k < l.length) (hk : k ≤ (l.takeWhile p).length) (hp : p l[k] = false) : k = (l.takeWhile p).length := by
  rcases Nat.lt_or_ge k (l.takeWhile p).length with h1 | h1
  · rw [tw_get p l k h h1] at hp; simp at hp
  · omega

end Go.Proofs.YtmgifbibhodbbaaDoor

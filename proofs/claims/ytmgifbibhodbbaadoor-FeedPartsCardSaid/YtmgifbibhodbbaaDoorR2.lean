/- The contracts of the reference's Number, Upper, and of its reader's Atom, Number, Word, Must, Next. -/
import Derived.Test.YtmgifbibhodbbaaDoorR1
namespace Go.Proofs.YtmgifbibhodbbaaDoor
open Go.RowKit

theorem num_lt : ∀ (l : List UInt8), (∀ c ∈ l, digB c = true) → num l < 10 ^ l.length := by
  intro l
  refine snoc_ind (P := fun l => (∀ c ∈ l, digB c = true) → num l < 10 ^ l.length) (by simp [num]) (fun r c ih => ?_) l
  intro hd
  have hc := (digB_iff c).1 (hd c (by simp))
  have hr := ih (fun x hx => hd x (by simp [hx]))
  rw [num_snoc]
  simp only [List.length_append, List.length_singleton, Nat.pow_succ]
  omega
theorem num_take (l : List UInt8) (k : Nat) (h : k < l.length) : num (l.take (k + 1)) = 10 * num (l.take k) + (l[k].toNat - 48) := by
  rw [List.take_succ_eq_append_getElem h, num_snoc]
theorem num_take_le (l : List UInt8) (hd : ∀ c ∈ l, digB c = true) (k : Nat) (hk : k ≤ 9) : num (l.take k) ≤ 999999999 := by
  have h1 := num_lt (l.take k) (fun c hc => hd c (List.mem_of_mem_take hc))
  have h2 : 10 ^ (l.take k).length ≤ 10 ^ 9 := Nat.pow_le_pow_right (by omega) (by simp; omega)
  omega

theorem ret_two {k : IntKind} {a b : Int} {p q : Bool} (h1 : a = b) (h2 : p = q) : Ending.returned (.tuple #[.int k a, .bool p]) = .returned (.tuple #[.int k b, .bool q]) := by rw [h1, h2]

/-- what the reference's Number comes to -/
def NumPost (l : List UInt8) (w : World) (e : Ending) (w' : World) : Prop := ∃ v : Nat, e = .returned (.tuple #[.int .u64 v, .bool (numOk l)]) ∧ (numOk l = true → v = num l) ∧ w = w'
theorem NumPost.no {l : List UInt8} {w : World} {e : Ending} (h : numOk l = false) (he : e = .returned (.tuple #[.int .u64 0, .bool false])) : NumPost l w e w := ⟨0, by rw [h]; exact he, fun h' => absurd (h.symm.trans h') (by simp), rfl⟩
theorem numOk_zero (c : UInt8) (r : List UInt8) (hc : c = 48) (hr : 1 ≤ r.length) : numOk (c :: r) = false := by
  subst hc
  have e1 : decide (1 < (48 :: r).length) = true := by simp; omega
  unfold numOk
  rw [e1]; simp
theorem numOk_le (l : List UInt8) (h1 : 1 ≤ l.length) (h10 : l.length ≤ 10) (hz : ¬ (1 < l.length ∧ l.head? = some 48)) : numOk l = decide (num l ≤ 4294967295) := by
  have e1 : decide (1 ≤ l.length) = true := by simpa using h1
  have e2 : decide (l.length ≤ 10) = true := by simpa using h10
  have e3 : (decide (1 < l.length) && l.head? == some 48) = false := by
    rw [Bool.and_eq_false_iff]
    by_cases h : 1 < l.length
    · right; simp; exact fun e => hz ⟨h, e⟩
    · left; simpa using h
  unfold numOk
  rw [e1, e2, e3]; simp

set_option maxHeartbeats 800000 in
set_option maxRecDepth 100000 in
theorem numLoop (l : List UInt8) (hd : ∀ x ∈ l, digB x = true) (h1 : 0 < l.length) (h10 : l.length ≤ 10) (w : World) (hz : (l.length : Int) ≤ 1 ∨ 1 < (l.length : Int) ∧ (((l[0]'h1).toNat : Int) == 48) = false) :
    Calls Tryd.prog 61 #[.string (B l), .int .u64 4294967295] w (NumPost l w) := by
  have hok := numOk_le l (by omega) h10 (by
    rintro ⟨ha, hb⟩
    rcases hz with h | ⟨_, h⟩
    · omega
    · rw [List.head?_eq_getElem?, List.getElem?_eq_getElem h1] at hb
      injection hb with hb
      rw [hb] at h; simp at h)
  have hget : ∀ k (h : k < l.length), 48 ≤ l[k].toNat ∧ l[k].toNat ≤ 57 := fun k h => (digB_iff _).1 (hd _ (List.getElem_mem h))
  have hnum : ∀ k (h : k < l.length), num (l.take (k + 1)) = 10 * num (l.take k) + (l[k].toNat - 48) := fun k h => num_take l k h
  have hle : ∀ k, k ≤ 9 → num (l.take k) ≤ 999999999 := fun k h => num_take_le l hd k h
  have hall : num (l.take l.length) = num l := by rw [List.take_length]
  have HOK := Lib.hid hok; have HG := Lib.hid hget; have HN := Lib.hid hnum; have HLE := Lib.hid hle; have HA := Lib.hid hall
  clear hok hget hnum hle hd hall
  rcases hz with hz | ⟨hz1, hz2⟩
  all_goals
    go_enter Tryd.func61, Tryd.ntmps61
    go_wp2_with fail
    go_loop [6, 7] (fun n i => ∃ k : Nat, k ≤ l.length ∧ i = .int .i64 k ∧ n = .int .u64 (num (l.take k))) (fun _ i => l.length - (intOf i).toNat)
    case atStart => exact ⟨0, Nat.zero_le _, rfl, rfl⟩
    case round =>
      obtain ⟨k, hk, rfl, rfl⟩ := hrel
      by_cases hlt : k < l.length
      · have hg := HG.out k hlt
        have hn := HN.out k hlt
        have hl9 := HLE.out k (by omega)
        have g1 : 48 ≤ (l[k].toNat : Int) := by omega
        have g2 : (l[k].toNat : Int) ≤ 57 := by omega
        have HNK := Lib.hid hn
        clear hn hg
        go_wp2_with fail
        refine ⟨⟨k + 1, by omega, by go_num, congrArg (Value.int .u64) ?_⟩, by simp [intOf]; omega⟩
        rw [HNK.out]
        omega
      · have hk' : k = l.length := by omega
        have HK := Lib.hid hk'
        clear hk'
        go_wp2_with fail
        go_ret2
        have e1 : num (l.take k) = num l := by rw [HK.out]; exact HA.out
        refine ⟨num (l.take k), ret_two rfl ?_, fun _ => e1, rfl⟩
        rw [HOK.out, e1]
        exact bool_of (by simp only [decide_eq_true_eq]; omega)

set_option maxHeartbeats 800000 in
set_option maxRecDepth 100000 in
theorem refNumber_any (l : List UInt8) (hd : ∀ c ∈ l, digB c = true) (w : World) (hl : l.length ≤ 1048576) :
    Calls Tryd.prog 61 #[.string (B l), .int .u64 4294967295] w (NumPost l w) := by
  by_cases h0 : l.length < 1
  · have hl0 : l = [] := by cases l with | nil => rfl | cons => simp at h0
    subst hl0
    clear h0
    go_enter Tryd.func61, Tryd.ntmps61
    go_wp2_with fail
    go_ret2
    exact NumPost.no rfl rfl
  · have h0' : 1 ≤ (l.length : Int) := by omega
    by_cases h10 : 10 < (l.length : Int)
    · have hno : numOk l = false := by
        have : decide (l.length ≤ 10) = false := by simp; omega
        simp [numOk, this]
      have HNO := Lib.hid hno
      have HD := Lib.hid hd
      clear hno h0 hd
      go_enter Tryd.func61, Tryd.ntmps61
      go_wp2_with fail
      go_ret2
      exact NumPost.no HNO.out rfl
    · have h10' : (l.length : Int) ≤ 10 := by omega
      have h0l : 0 < l.length := by omega
      by_cases h1 : 1 < (l.length : Int)
      · by_cases hz : ((l[0]'h0l).toNat : Int) = 48
        · have hno : numOk l = false := by
            rcases l with _ | ⟨c, r⟩
            · simp at h0l
            · refine numOk_zero c r (UInt8.toNat_inj.1 ?_) (by simp at h1; omega)
              have hz' : (c.toNat : Int) = 48 := hz
              have : (48 : UInt8).toNat = 48 := rfl
              omega
          have hz' : (((l[0]'h0l).toNat : Int) == 48) = true := by simpa using hz
          have HNO := Lib.hid hno
          have HD := Lib.hid hd
          clear hno h0 hd hz h10
          go_enter Tryd.func61, Tryd.ntmps61
          go_wp2_with fail
          go_ret2
          exact NumPost.no HNO.out rfl
        · exact numLoop l hd h0l (by omega) w (.inr ⟨h1, by simpa using hz⟩)
      · exact numLoop l hd h0l (by omega) w (.inl (by omega))

theorem refMust_any (g : Nat) (S : List UInt8) (s : Sta) (v : List UInt8) (w : World) (hw : ∀ W, W = w → Calls Tryd.prog 46 #[.pointer (some ⟨g, 0, none⟩), .string (B v)] W fun e w' => e = .returned (.bool (wordB v s)) ∧ Rr w' g S (pWord v s) ∧ w.grownBy w' (some g)) :
    Calls Tryd.prog 45 #[.pointer (some ⟨g, 0, none⟩), .string (B v)] w fun e w' => e = .returned (.tuple #[]) ∧ Rr w' g S (pMust v s) ∧ w.grownBy w' (some g) := by
  unfold pMust
  have HW := Lib.hid hw; clear hw
  cases hb : wordB v s with
  | true =>
    have hc := HW.out w rfl
    rw [hb] at hc
    have HC := Lib.hid hc
    clear hc hb
    go_enter Tryd.func45, Tryd.ntmps45
    go_wp2_with fail
    refine HC.out.mono ?_
    rintro e w1 ⟨rfl, h1, q1⟩
    go_wp2_with fail
    go_end0
    exact ⟨rfl, h1, q1⟩
  | false =>
    have hc := HW.out w rfl
    rw [hb] at hc
    have HC := Lib.hid hc
    clear hc hb
    go_enter Tryd.func45, Tryd.ntmps45
    go_wp2_with fail
    refine HC.out.mono ?_
    rintro e w1 ⟨rfl, h1, q1⟩
    go_wp2_with fail
    refine (refFail_any g S _ _ h1).mono ?_
    rintro e w2 ⟨rfl, h2, q2⟩
    go_wp2_with fail
    go_end0
    exact ⟨rfl, h2, grown_then q1 q2⟩

end Go.Proofs.YtmgifbibhodbbaaDoor

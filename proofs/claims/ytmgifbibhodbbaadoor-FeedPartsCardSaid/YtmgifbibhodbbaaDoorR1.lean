/- The contracts of the reference's reader: its smallest methods, its numbers, its great letters. -/
import Derived.Test.YtmgifbibhodbbaaDoorT5
import Derived.Test.YtmgifbibhodbbaaDoorP1
namespace Go.Proofs.YtmgifbibhodbbaaDoor
open Go.RowKit

/-- what is left of a text of which so much is read -/
def restL (S : List UInt8) (a : Nat) (f : Bool) : List UInt8 := if f then [] else S.drop a
theorem restL_len (S : List UInt8) (a : Nat) (f : Bool) : (restL S a f).length ≤ S.length := by unfold restL; split <;> simp
/-- the reference's reader in memory -/
def Rf (w : World) (g : Nat) (S : List UInt8) (a : Nat) (f : Bool) : Prop := Blk w g 34 #[.string (B S), .int .i64 a, .bool f]
/-- .. in a state of the model -/
def Rr (w : World) (g : Nat) (S : List UInt8) (s : Sta) : Prop := ∃ a, a ≤ S.length ∧ Rf w g S a s.2 ∧ s.1 = restL S a s.2

theorem refRest_any (g : Nat) (S : List UInt8) (a : Nat) (f : Bool) (w : World) (ha : a ≤ S.length) (hr : Rf w g S a f) :
    Calls Tryd.prog 21 #[.pointer (some ⟨g, 0, none⟩)] w fun e w' => e = .returned (.string (B (restL S a f))) ∧ ∃ n, w' = w.drewN n := by
  have c0 : w.cell? ⟨g, 0, none⟩ = some (.string (B S)) := hr.cell 0
  have c1 : w.cell? ⟨g, 1, none⟩ = some (.int .i64 a) := hr.cell 1
  have c2 : w.cell? ⟨g, 2, none⟩ = some (.bool f) := hr.cell 2
  clear hr
  cases f with
  | true =>
    go_enter Tryd.func21, Tryd.ntmps21
    go_wp2_with fail
    go_ret
    exact ⟨rfl, 0, by simp [World.drewN_zero]⟩
  | false =>
    go_enter Tryd.func21, Tryd.ntmps21
    go_wp2_with fail
    go_quiet (fail)
    go_wp2_with fail
    go_ret
    exact ⟨rfl, nq, rfl⟩

theorem refFail_any (g : Nat) (S : List UInt8) (s : Sta) (w : World) (hr : Rr w g S s) :
    Calls Tryd.prog 49 #[.pointer (some ⟨g, 0, none⟩)] w fun e w' => e = .returned (.tuple #[]) ∧ Rr w' g S ([], true) ∧ w.grownBy w' (some g) := by
  obtain ⟨a, ha, hr, hs⟩ := hr
  have c2 : w.cell? ⟨g, 2, none⟩ = some (.bool s.2) := hr.cell 2
  have f2 := hr.frozen 2
  have h2 : Rf (w.setCell ⟨g, 2, none⟩ (.bool true)) g S a true := Blk.set_ hr 2 (.bool true)
  have H2 := Lib.hid h2; clear h2 hr hs
  go_enter Tryd.func49, Tryd.ntmps49
  go_wp2_with fail
  refine bodyPost_end0 rfl rfl ⟨rfl, ⟨a, ha, H2.out, rfl⟩, ?_⟩
  exact grown_set1 _ _ _ _

theorem atomB_nat : ∀ n : Nat, n < 256 → atomB (UInt8.ofNat n) = decide (33 ≤ n ∧ n ≤ 126 ∧ n ≠ 40 ∧ n ≠ 41 ∧ n ≠ 123 ∧ n ≠ 37 ∧ n ≠ 42 ∧ n ≠ 34 ∧ n ≠ 92 ∧ n ≠ 93) := by decide +kernel
theorem atomB_iff (c : UInt8) : atomB c = true ↔ 33 ≤ c.toNat ∧ c.toNat ≤ 126 ∧ c.toNat ≠ 40 ∧ c.toNat ≠ 41 ∧ c.toNat ≠ 123 ∧ c.toNat ≠ 37 ∧ c.toNat ≠ 42 ∧ c.toNat ≠ 34 ∧ c.toNat ≠ 92 ∧ c.toNat ≠ 93 := by
  have := atomB_nat c.toNat (UInt8.toNat_lt c)
  rw [UInt8.ofNat_toNat] at this
  rw [this, decide_eq_true_eq]
theorem bool_of {a b : Bool} (h : a = true ↔ b = true) : a = b := Bool.eq_iff_iff.2 h

theorem refAtomic_any (c : UInt8) (w : World) :
    Calls Tryd.prog 66 #[.int .u8 c.toNat] w fun e w' => e = .returned (.bool (atomB c)) ∧ w = w' := by
  by_cases h1 : (c.toNat : Int) < 33
  · have e2 : decide ((33 : UInt8) ≤ c) = false := by simp [UInt8.lt_iff_toNat_lt]; omega
    go_enter Tryd.func66, Tryd.ntmps66
    go_wp2_with fail
    go_ret
    exact ⟨ret_bool (by unfold atomB; rw [e2]; simp), rfl⟩
  · have h1' : 33 ≤ (c.toNat : Int) := by omega
    clear h1
    by_cases h2 : 126 < (c.toNat : Int)
    · have e2 : decide (c ≤ (126 : UInt8)) = false := by simp [UInt8.lt_iff_toNat_lt]; omega
      go_enter Tryd.func66, Tryd.ntmps66
      go_wp2_with fail
      go_ret
      exact ⟨ret_bool (by unfold atomB; rw [e2]; simp), rfl⟩
    · have h2' : (c.toNat : Int) ≤ 126 := by omega
      clear h2
      go_enter Tryd.func66, Tryd.ntmps66
      go_wp2_with fail
      all_goals
        go_ret
        refine ⟨ret_bool (bool_of ?_), rfl⟩
        rw [atomB_iff]
        simp
        omega

set_option maxHeartbeats 800000 in
set_option maxRecDepth 100000 in
theorem refRow0_any (l : List UInt8) (w : World) (hl : l.length ≤ 1048576) :
    Calls Tryd.prog 53 #[.string (B l), .int .i64 0] w fun e w' => e = .returned (.int .i64 (l.takeWhile atomB).length) ∧ w = w' := by
  go_enter Tryd.func53, Tryd.ntmps53
  go_wp2_with fail
  go_loop [5] (fun n => ∃ k : Nat, k ≤ (l.takeWhile atomB).length ∧ n = .int .i64 k) (fun n => l.length - (intOf n).toNat)
  case atStart => exact ⟨0, Nat.zero_le _, rfl⟩
  case round =>
    obtain ⟨k, hk, rfl⟩ := hrel
    have htl := takeWhile_le atomB l
    by_cases hlt : k < l.length
    · cases hpk : atomB l[k] with
      | true =>
        have hk1 := tw_yes atomB l k hlt hk hpk
        have hc : ∀ W, Calls Tryd.prog 66 #[.int .u8 l[k].toNat] W fun e w' => e = .returned (.bool true) ∧ W = w' := fun W => by have := refAtomic_any l[k] W; rwa [hpk] at this
        have HC := Lib.hid hc; clear hc hpk
        go_wp2_with (first | (go_at_call 66; refine (HC.out _).mono ?_; rintro e w' ⟨rfl, rfl⟩))
        go_round
        case rel => exact ⟨k + 1, hk1, by go_num⟩
        case measure => simp [intOf]; omega
      | false =>
        have hk1 := tw_no atomB l k hlt hk hpk
        have HK := Lib.hid hk1
        have hc : ∀ W, Calls Tryd.prog 66 #[.int .u8 l[k].toNat] W fun e w' => e = .returned (.bool false) ∧ W = w' := fun W => by have := refAtomic_any l[k] W; rwa [hpk] at this
        have HC := Lib.hid hc; clear hc hpk hk1
        go_wp2_with (first | (go_at_call 66; refine (HC.out _).mono ?_; rintro e w' ⟨rfl, rfl⟩))
        go_ret
        exact ⟨ret_int (by rw [HK.out]), rfl⟩
    · have hk1 : k = (l.takeWhile atomB).length := by omega
      have HK := Lib.hid hk1; clear hk1
      go_wp2_with fail
      go_ret
      exact ⟨ret_int (by rw [HK.out]), rfl⟩

set_option maxHeartbeats 800000 in
set_option maxRecDepth 100000 in
theorem refRow1_any (l : List UInt8) (w : World) (hl : l.length ≤ 1048576) :
    Calls Tryd.prog 53 #[.string (B l), .int .i64 1] w fun e w' => e = .returned (.int .i64 (l.takeWhile digB).length) ∧ w = w' := by
  go_enter Tryd.func53, Tryd.ntmps53
  go_wp2_with fail
  go_loop [5] (fun n => ∃ k : Nat, k ≤ (l.takeWhile digB).length ∧ n = .int .i64 k) (fun n => l.length - (intOf n).toNat)
  case atStart => exact ⟨0, Nat.zero_le _, rfl⟩
  case round =>
    obtain ⟨k, hk, rfl⟩ := hrel
    have htl := takeWhile_le digB l
    by_cases hlt : k < l.length
    · cases hpk : digB l[k] with
      | true =>
        have hk1 := tw_yes digB l k hlt hk hpk
        have hd := (digB_iff _).1 hpk
        have h1 : 48 ≤ (l[k].toNat : Int) := by omega
        have h2 : (l[k].toNat : Int) ≤ 57 := by omega
        clear hpk hd
        go_wp2_with fail
        go_round
        case rel => exact ⟨k + 1, hk1, by go_num⟩
        case measure => simp [intOf]; omega
      | false =>
        have hk1 := tw_no digB l k hlt hk hpk
        have HK := Lib.hid hk1
        have hd : ¬ (48 ≤ l[k].toNat ∧ l[k].toNat ≤ 57) := fun h => by rw [(digB_iff _).2 h] at hpk; cases hpk
        clear hpk hk1
        by_cases h1 : 48 ≤ (l[k].toNat : Int)
        · have h2 : 57 < (l[k].toNat : Int) := by omega
          clear hd
          go_wp2_with fail
          go_ret
          exact ⟨ret_int (by rw [HK.out]), rfl⟩
        · have h2 : (l[k].toNat : Int) < 48 := by omega
          clear hd h1
          go_wp2_with fail
          go_ret
          exact ⟨ret_int (by rw [HK.out]), rfl⟩
    · have hk1 : k = (l.takeWhile digB).length := by omega
      have HK := Lib.hid hk1; clear hk1
      go_wp2_with fail
      go_ret
      exact ⟨ret_int (by rw [HK.out]), rfl⟩

end Go.Proofs.YtmgifbibhodbbaaDoor

/- What is asked of both readers, case by case: an atom, a number, a string, a literal, a blank, to give up. -/
import Derived.Test.YtmgifbibhodbbaaDoorK1
namespace Go.Proofs.YtmgifbibhodbbaaDoor
open Go.RowKit

set_option maxHeartbeats 1600000 in
set_option maxRecDepth 100000 in
theorem asked_0n {n₀ g h : Nat} {S : List UInt8} {s : Sta} {w : World} (hS : S.length ≤ 1048576) (hg : n₀ ≤ g) (hh : n₀ ≤ h) (hne : g ≠ h) (hb : Both n₀ g h S s w) :
    Calls Tryd.prog 20 #[.pointer (some ⟨g, 0, none⟩), .pointer (some ⟨h, 0, none⟩), .agg #[.int .u8 0, .string (B ([]))]] w (AskPost n₀ g h S (askS 0 ([]) s) w) := by
  have hA := ahead_nil (d := 0) hb
  have hE := hb.env
  have hl := hb.rr.len
  have HA := Lib.hid hA; have HE := Lib.hid hE
  clear hb hE hA
  go_enter Tryd.func20, Tryd.ntmps20
  go_wp2_with fail
  obtain ⟨w1, hw1⟩ : ∃ w1, (w.alloc (.cells #[.int .u8 0, .string (B [])] 36)).alloc (.cells #[.int .u8 32] 5) = w1 := ⟨_, rfl⟩
  rw [hw1]
  replace HA := Lib.hid (hw1 ▸ HA.out)
  clear hw1
  refine (atom_any g s.1 s.2 _ (by unfold maxLen; omega) HA.out.both.rd).mono ?_
  rintro e w2 ⟨rfl, k2, q2⟩
  have r2 := Rr.grown HA.out.both.rr q2 (by simp; omega)
  go_wp2_with fail
  refine (refAtom_any h S s _ hS r2).mono ?_
  rintro e w3 ⟨rfl, k3, q3⟩
  have hdone := ask_done HA.out HE.out q2 q3 k2 k3 hg hh hne
  clear k2 q2 r2 k3 q3
  go_wp2_with fail
  go_ret
  exact ⟨rfl, hdone.1, hdone.2⟩

set_option maxHeartbeats 1600000 in
set_option maxRecDepth 100000 in
theorem asked_0c {n₀ g h : Nat} {S : List UInt8} {s : Sta} {w : World} (c : UInt8) (r : List UInt8) (hS : S.length ≤ 1048576) (hg : n₀ ≤ g) (hh : n₀ ≤ h) (hne : g ≠ h) (hb : Both n₀ g h S s w) :
    Calls Tryd.prog 20 #[.pointer (some ⟨g, 0, none⟩), .pointer (some ⟨h, 0, none⟩), .agg #[.int .u8 0, .string (B (c :: r))]] w (AskPost n₀ g h S (askS 0 (c :: r) s) w) := by
  have hA := ahead_cons (d := 0) (c := c) (r := r) hb
  have hE := hb.env
  have hl := hb.rr.len
  have HA := Lib.hid hA; have HE := Lib.hid hE
  clear hb hE hA
  go_enter Tryd.func20, Tryd.ntmps20
  go_wp2_with fail
  obtain ⟨w1, hw1⟩ : ∃ w1, (w.alloc (.cells #[.int .u8 0, .string (B (c :: r))] 36)).alloc (.cells #[.int .u8 c.toNat] 5) = w1 := ⟨_, rfl⟩
  rw [hw1]
  replace HA := Lib.hid (hw1 ▸ HA.out)
  clear hw1
  refine (atom_any g s.1 s.2 _ (by unfold maxLen; omega) HA.out.both.rd).mono ?_
  rintro e w2 ⟨rfl, k2, q2⟩
  have r2 := Rr.grown HA.out.both.rr q2 (by simp; omega)
  go_wp2_with fail
  refine (refAtom_any h S s _ hS r2).mono ?_
  rintro e w3 ⟨rfl, k3, q3⟩
  have hdone := ask_done HA.out HE.out q2 q3 k2 k3 hg hh hne
  clear k2 q2 r2 k3 q3
  go_wp2_with fail
  go_ret
  exact ⟨rfl, hdone.1, hdone.2⟩

set_option maxHeartbeats 1600000 in
set_option maxRecDepth 100000 in
theorem asked_1n {n₀ g h : Nat} {S : List UInt8} {s : Sta} {w : World} (hS : S.length ≤ 1048576) (hg : n₀ ≤ g) (hh : n₀ ≤ h) (hne : g ≠ h) (hb : Both n₀ g h S s w) :
    Calls Tryd.prog 20 #[.pointer (some ⟨g, 0, none⟩), .pointer (some ⟨h, 0, none⟩), .agg #[.int .u8 1, .string (B ([]))]] w (AskPost n₀ g h S (askS 1 ([]) s) w) := by
  have hA := ahead_nil (d := 1) hb
  have hE := hb.env
  have hl := hb.rr.len
  have HA := Lib.hid hA; have HE := Lib.hid hE
  clear hb hE hA
  go_enter Tryd.func20, Tryd.ntmps20
  go_wp2_with fail
  obtain ⟨w1, hw1⟩ : ∃ w1, (w.alloc (.cells #[.int .u8 1, .string (B [])] 36)).alloc (.cells #[.int .u8 32] 5) = w1 := ⟨_, rfl⟩
  rw [hw1]
  replace HA := Lib.hid (hw1 ▸ HA.out)
  clear hw1
  refine (number_any g s.1 s.2 _ (by omega) hg HA.out.both.env HA.out.both.rd).mono ?_
  rintro e w2 ⟨rfl, k2, q2⟩
  have r2 := Rr.grown HA.out.both.rr q2 (by simp; omega)
  go_wp2_with fail
  refine (refNumberR_any h S s _ hS r2).mono ?_
  rintro e w3 ⟨rfl, k3, q3⟩
  have hdone := ask_done HA.out HE.out q2 q3 k2 k3 hg hh hne
  clear k2 q2 r2 k3 q3
  go_wp2_with fail
  go_ret
  exact ⟨rfl, hdone.1, hdone.2⟩

set_option maxHeartbeats 1600000 in
set_option maxRecDepth 100000 in
theorem asked_1c {n₀ g h : Nat} {S : List UInt8} {s : Sta} {w : World} (c : UInt8) (r : List UInt8) (hS : S.length ≤ 1048576) (hg : n₀ ≤ g) (hh : n₀ ≤ h) (hne : g ≠ h) (hb : Both n₀ g h S s w) :
    Calls Tryd.prog 20 #[.pointer (some ⟨g, 0, none⟩), .pointer (some ⟨h, 0, none⟩), .agg #[.int .u8 1, .string (B (c :: r))]] w (AskPost n₀ g h S (askS 1 (c :: r) s) w) := by
  have hA := ahead_cons (d := 1) (c := c) (r := r) hb
  have hE := hb.env
  have hl := hb.rr.len
  have HA := Lib.hid hA; have HE := Lib.hid hE
  clear hb hE hA
  go_enter Tryd.func20, Tryd.ntmps20
  go_wp2_with fail
  obtain ⟨w1, hw1⟩ : ∃ w1, (w.alloc (.cells #[.int .u8 1, .string (B (c :: r))] 36)).alloc (.cells #[.int .u8 c.toNat] 5) = w1 := ⟨_, rfl⟩
  rw [hw1]
  replace HA := Lib.hid (hw1 ▸ HA.out)
  clear hw1
  refine (number_any g s.1 s.2 _ (by omega) hg HA.out.both.env HA.out.both.rd).mono ?_
  rintro e w2 ⟨rfl, k2, q2⟩
  have r2 := Rr.grown HA.out.both.rr q2 (by simp; omega)
  go_wp2_with fail
  refine (refNumberR_any h S s _ hS r2).mono ?_
  rintro e w3 ⟨rfl, k3, q3⟩
  have hdone := ask_done HA.out HE.out q2 q3 k2 k3 hg hh hne
  clear k2 q2 r2 k3 q3
  go_wp2_with fail
  go_ret
  exact ⟨rfl, hdone.1, hdone.2⟩

set_option maxHeartbeats 1600000 in
set_option maxRecDepth 100000 in
theorem asked_2n {n₀ g h : Nat} {S : List UInt8} {s : Sta} {w : World} (hS : S.length ≤ 1048576) (hg : n₀ ≤ g) (hh : n₀ ≤ h) (hne : g ≠ h) (hb : Both n₀ g h S s w) :
    Calls Tryd.prog 20 #[.pointer (some ⟨g, 0, none⟩), .pointer (some ⟨h, 0, none⟩), .agg #[.int .u8 2, .string (B ([]))]] w (AskPost n₀ g h S (askS 2 ([]) s) w) := by
  have hA := ahead_nil (d := 2) hb
  have hE := hb.env
  have hl := hb.rr.len
  have HA := Lib.hid hA; have HE := Lib.hid hE
  clear hb hE hA
  go_enter Tryd.func20, Tryd.ntmps20
  go_wp2_with fail
  obtain ⟨w1, hw1⟩ : ∃ w1, (w.alloc (.cells #[.int .u8 2, .string (B [])] 36)).alloc (.cells #[.int .u8 32] 5) = w1 := ⟨_, rfl⟩
  rw [hw1]
  replace HA := Lib.hid (hw1 ▸ HA.out)
  clear hw1
  refine (string_any g s _ (by omega) HA.out.both.rr.ok hg HA.out.both.env HA.out.both.rd).mono ?_
  rintro e w2 ⟨rfl, k2, q2⟩
  have r2 := Rr.grown HA.out.both.rr q2 (by simp; omega)
  go_wp2_with fail
  refine (refString_any h S s _ hS r2).mono ?_
  rintro e w3 ⟨rfl, k3, q3⟩
  have hdone := ask_done HA.out HE.out q2 q3 k2 k3 hg hh hne
  clear k2 q2 r2 k3 q3
  go_wp2_with fail
  go_ret
  exact ⟨rfl, hdone.1, hdone.2⟩

set_option maxHeartbeats 1600000 in
set_option maxRecDepth 100000 in
theorem asked_2c {n₀ g h : Nat} {S : List UInt8} {s : Sta} {w : World} (c : UInt8) (r : List UInt8) (hS : S.length ≤ 1048576) (hg : n₀ ≤ g) (hh : n₀ ≤ h) (hne : g ≠ h) (hb : Both n₀ g h S s w) :
    Calls Tryd.prog 20 #[.pointer (some ⟨g, 0, none⟩), .pointer (some ⟨h, 0, none⟩), .agg #[.int .u8 2, .string (B (c :: r))]] w (AskPost n₀ g h S (askS 2 (c :: r) s) w) := by
  have hA := ahead_cons (d := 2) (c := c) (r := r) hb
  have hE := hb.env
  have hl := hb.rr.len
  have HA := Lib.hid hA; have HE := Lib.hid hE
  clear hb hE hA
  go_enter Tryd.func20, Tryd.ntmps20
  go_wp2_with fail
  obtain ⟨w1, hw1⟩ : ∃ w1, (w.alloc (.cells #[.int .u8 2, .string (B (c :: r))] 36)).alloc (.cells #[.int .u8 c.toNat] 5) = w1 := ⟨_, rfl⟩
  rw [hw1]
  replace HA := Lib.hid (hw1 ▸ HA.out)
  clear hw1
  refine (string_any g s _ (by omega) HA.out.both.rr.ok hg HA.out.both.env HA.out.both.rd).mono ?_
  rintro e w2 ⟨rfl, k2, q2⟩
  have r2 := Rr.grown HA.out.both.rr q2 (by simp; omega)
  go_wp2_with fail
  refine (refString_any h S s _ hS r2).mono ?_
  rintro e w3 ⟨rfl, k3, q3⟩
  have hdone := ask_done HA.out HE.out q2 q3 k2 k3 hg hh hne
  clear k2 q2 r2 k3 q3
  go_wp2_with fail
  go_ret
  exact ⟨rfl, hdone.1, hdone.2⟩

set_option maxHeartbeats 1600000 in
set_option maxRecDepth 100000 in
theorem asked_3n {n₀ g h : Nat} {S : List UInt8} {s : Sta} {w : World} (hS : S.length ≤ 1048576) (hg : n₀ ≤ g) (hh : n₀ ≤ h) (hne : g ≠ h) (hb : Both n₀ g h S s w) :
    Calls Tryd.prog 20 #[.pointer (some ⟨g, 0, none⟩), .pointer (some ⟨h, 0, none⟩), .agg #[.int .u8 3, .string (B ([]))]] w (AskPost n₀ g h S (askS 3 ([]) s) w) := by
  have hA := ahead_nil (d := 3) hb
  have hE := hb.env
  have hl := hb.rr.len
  have HA := Lib.hid hA; have HE := Lib.hid hE
  clear hb hE hA
  go_enter Tryd.func20, Tryd.ntmps20
  go_wp2_with fail
  obtain ⟨w1, hw1⟩ : ∃ w1, (w.alloc (.cells #[.int .u8 3, .string (B [])] 36)).alloc (.cells #[.int .u8 32] 5) = w1 := ⟨_, rfl⟩
  rw [hw1]
  replace HA := Lib.hid (hw1 ▸ HA.out)
  clear hw1
  refine (literal_any g s.1 s.2 _ (by omega) hg HA.out.both.env HA.out.both.rd).mono ?_
  rintro e w2 ⟨rfl, k2, q2⟩
  have r2 := Rr.grown HA.out.both.rr q2 (by simp; omega)
  go_wp2_with fail
  refine (refLiteral_any h S s _ hS r2).mono ?_
  rintro e w3 ⟨rfl, k3, q3⟩
  have hdone := ask_done HA.out HE.out q2 q3 k2 k3 hg hh hne
  clear k2 q2 r2 k3 q3
  go_wp2_with fail
  go_ret
  exact ⟨rfl, hdone.1, hdone.2⟩

set_option maxHeartbeats 1600000 in
set_option maxRecDepth 100000 in
theorem asked_3c {n₀ g h : Nat} {S : List UInt8} {s : Sta} {w : World} (c : UInt8) (r : List UInt8) (hS : S.length ≤ 1048576) (hg : n₀ ≤ g) (hh : n₀ ≤ h) (hne : g ≠ h) (hb : Both n₀ g h S s w) :
    Calls Tryd.prog 20 #[.pointer (some ⟨g, 0, none⟩), .pointer (some ⟨h, 0, none⟩), .agg #[.int .u8 3, .string (B (c :: r))]] w (AskPost n₀ g h S (askS 3 (c :: r) s) w) := by
  have hA := ahead_cons (d := 3) (c := c) (r := r) hb
  have hE := hb.env
  have hl := hb.rr.len
  have HA := Lib.hid hA; have HE := Lib.hid hE
  clear hb hE hA
  go_enter Tryd.func20, Tryd.ntmps20
  go_wp2_with fail
  obtain ⟨w1, hw1⟩ : ∃ w1, (w.alloc (.cells #[.int .u8 3, .string (B (c :: r))] 36)).alloc (.cells #[.int .u8 c.toNat] 5) = w1 := ⟨_, rfl⟩
  rw [hw1]
  replace HA := Lib.hid (hw1 ▸ HA.out)
  clear hw1
  refine (literal_any g s.1 s.2 _ (by omega) hg HA.out.both.env HA.out.both.rd).mono ?_
  rintro e w2 ⟨rfl, k2, q2⟩
  have r2 := Rr.grown HA.out.both.rr q2 (by simp; omega)
  go_wp2_with fail
  refine (refLiteral_any h S s _ hS r2).mono ?_
  rintro e w3 ⟨rfl, k3, q3⟩
  have hdone := ask_done HA.out HE.out q2 q3 k2 k3 hg hh hne
  clear k2 q2 r2 k3 q3
  go_wp2_with fail
  go_ret
  exact ⟨rfl, hdone.1, hdone.2⟩

set_option maxHeartbeats 1600000 in
set_option maxRecDepth 100000 in
theorem asked_4n {n₀ g h : Nat} {S : List UInt8} {s : Sta} {w : World} (hS : S.length ≤ 1048576) (hg : n₀ ≤ g) (hh : n₀ ≤ h) (hne : g ≠ h) (hb : Both n₀ g h S s w) :
    Calls Tryd.prog 20 #[.pointer (some ⟨g, 0, none⟩), .pointer (some ⟨h, 0, none⟩), .agg #[.int .u8 4, .string (B ([]))]] w (AskPost n₀ g h S (askS 4 ([]) s) w) := by
  have hA := ahead_nil (d := 4) hb
  have hE := hb.env
  have hl := hb.rr.len
  have HA := Lib.hid hA; have HE := Lib.hid hE
  clear hb hE hA
  go_enter Tryd.func20, Tryd.ntmps20
  go_wp2_with fail
  obtain ⟨w1, hw1⟩ : ∃ w1, (w.alloc (.cells #[.int .u8 4, .string (B [])] 36)).alloc (.cells #[.int .u8 32] 5) = w1 := ⟨_, rfl⟩
  rw [hw1]
  replace HA := Lib.hid (hw1 ▸ HA.out)
  clear hw1
  refine (blank_any g s.1 s.2 _ (by omega) HA.out.both.rd).mono ?_
  rintro e w2 ⟨rfl, k2, q2⟩
  have r2 := Rr.grown HA.out.both.rr q2 (by simp; omega)
  go_wp2_with fail
  refine (refMust_at h S s [32] _ hS (by simp) r2).mono ?_
  rintro e w3 ⟨rfl, k3, q3⟩
  have hdone := ask_done HA.out HE.out q2 q3 k2 k3 hg hh hne
  clear k2 q2 r2 k3 q3
  go_wp2_with fail
  go_ret
  exact ⟨rfl, hdone.1, hdone.2⟩

set_option maxHeartbeats 1600000 in
set_option maxRecDepth 100000 in
theorem asked_4c {n₀ g h : Nat} {S : List UInt8} {s : Sta} {w : World} (c : UInt8) (r : List UInt8) (hS : S.length ≤ 1048576) (hg : n₀ ≤ g) (hh : n₀ ≤ h) (hne : g ≠ h) (hb : Both n₀ g h S s w) :
    Calls Tryd.prog 20 #[.pointer (some ⟨g, 0, none⟩), .pointer (some ⟨h, 0, none⟩), .agg #[.int .u8 4, .string (B (c :: r))]] w (AskPost n₀ g h S (askS 4 (c :: r) s) w) := by
  have hA := ahead_cons (d := 4) (c := c) (r := r) hb
  have hE := hb.env
  have hl := hb.rr.len
  have HA := Lib.hid hA; have HE := Lib.hid hE
  clear hb hE hA
  go_enter Tryd.func20, Tryd.ntmps20
  go_wp2_with fail
  obtain ⟨w1, hw1⟩ : ∃ w1, (w.alloc (.cells #[.int .u8 4, .string (B (c :: r))] 36)).alloc (.cells #[.int .u8 c.toNat] 5) = w1 := ⟨_, rfl⟩
  rw [hw1]
  replace HA := Lib.hid (hw1 ▸ HA.out)
  clear hw1
  refine (blank_any g s.1 s.2 _ (by omega) HA.out.both.rd).mono ?_
  rintro e w2 ⟨rfl, k2, q2⟩
  have r2 := Rr.grown HA.out.both.rr q2 (by simp; omega)
  go_wp2_with fail
  refine (refMust_at h S s [32] _ hS (by simp) r2).mono ?_
  rintro e w3 ⟨rfl, k3, q3⟩
  have hdone := ask_done HA.out HE.out q2 q3 k2 k3 hg hh hne
  clear k2 q2 r2 k3 q3
  go_wp2_with fail
  go_ret
  exact ⟨rfl, hdone.1, hdone.2⟩

set_option maxHeartbeats 1600000 in
set_option maxRecDepth 100000 in
theorem asked_8n {n₀ g h : Nat} {S : List UInt8} {s : Sta} {w : World} (_hS : S.length ≤ 1048576) (hg : n₀ ≤ g) (hh : n₀ ≤ h) (hne : g ≠ h) (hb : Both n₀ g h S s w) :
    Calls Tryd.prog 20 #[.pointer (some ⟨g, 0, none⟩), .pointer (some ⟨h, 0, none⟩), .agg #[.int .u8 8, .string (B ([]))]] w (AskPost n₀ g h S (askS 8 ([]) s) w) := by
  have hA := ahead_nil (d := 8) hb
  have hE := hb.env
  have HA := Lib.hid hA; have HE := Lib.hid hE
  clear hb hE hA
  go_enter Tryd.func20, Tryd.ntmps20
  go_wp2_with fail
  obtain ⟨w1, hw1⟩ : ∃ w1, (w.alloc (.cells #[.int .u8 8, .string (B [])] 36)).alloc (.cells #[.int .u8 32] 5) = w1 := ⟨_, rfl⟩
  rw [hw1]
  replace HA := Lib.hid (hw1 ▸ HA.out)
  clear hw1
  refine (fail_any g s.1 s.2 _ HA.out.both.rd).mono ?_
  rintro e w2 ⟨rfl, k2, q2⟩
  have r2 := Rr.grown HA.out.both.rr q2 (by simp; omega)
  go_wp2_with fail
  refine (refFail_any h S s _ r2).mono ?_
  rintro e w3 ⟨rfl, k3, q3⟩
  have hdone := ask_done HA.out HE.out q2 q3 k2 k3 hg hh hne
  clear k2 q2 r2 k3 q3
  go_wp2_with fail
  go_ret
  exact ⟨rfl, hdone.1, hdone.2⟩

set_option maxHeartbeats 1600000 in
set_option maxRecDepth 100000 in
theorem asked_8c {n₀ g h : Nat} {S : List UInt8} {s : Sta} {w : World} (c : UInt8) (r : List UInt8) (_hS : S.length ≤ 1048576) (hg : n₀ ≤ g) (hh : n₀ ≤ h) (hne : g ≠ h) (hb : Both n₀ g h S s w) :
    Calls Tryd.prog 20 #[.pointer (some ⟨g, 0, none⟩), .pointer (some ⟨h, 0, none⟩), .agg #[.int .u8 8, .string (B (c :: r))]] w (AskPost n₀ g h S (askS 8 (c :: r) s) w) := by
  have hA := ahead_cons (d := 8) (c := c) (r := r) hb
  have hE := hb.env
  have HA := Lib.hid hA; have HE := Lib.hid hE
  clear hb hE hA
  go_enter Tryd.func20, Tryd.ntmps20
  go_wp2_with fail
  obtain ⟨w1, hw1⟩ : ∃ w1, (w.alloc (.cells #[.int .u8 8, .string (B (c :: r))] 36)).alloc (.cells #[.int .u8 c.toNat] 5) = w1 := ⟨_, rfl⟩
  rw [hw1]
  replace HA := Lib.hid (hw1 ▸ HA.out)
  clear hw1
  refine (fail_any g s.1 s.2 _ HA.out.both.rd).mono ?_
  rintro e w2 ⟨rfl, k2, q2⟩
  have r2 := Rr.grown HA.out.both.rr q2 (by simp; omega)
  go_wp2_with fail
  refine (refFail_any h S s _ r2).mono ?_
  rintro e w3 ⟨rfl, k3, q3⟩
  have hdone := ask_done HA.out HE.out q2 q3 k2 k3 hg hh hne
  clear k2 q2 r2 k3 q3
  go_wp2_with fail
  go_ret
  exact ⟨rfl, hdone.1, hdone.2⟩

end Go.Proofs.YtmgifbibhodbbaaDoor

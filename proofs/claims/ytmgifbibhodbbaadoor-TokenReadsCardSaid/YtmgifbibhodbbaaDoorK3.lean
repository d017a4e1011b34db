/- What is asked of both readers: a word, the next byte, bytes in a row, nothing. -/
import Derived.Test.YtmgifbibhodbbaaDoorK1
import Derived.Deep.RegionHeld3
namespace Go.Proofs.YtmgifbibhodbbaaDoor
open Go.RowKit

set_option maxHeartbeats 1600000 in
set_option maxRecDepth 100000 in
theorem asked_5n {n₀ g h : Nat} {S : List UInt8} {s : Sta} {w : World} (hS : S.length ≤ 1048576) (hg : n₀ ≤ g) (hh : n₀ ≤ h) (hne : g ≠ h) (hb : Both n₀ g h S s w) :
    Calls Tryd.prog 20 #[.pointer (some ⟨g, 0, none⟩), .pointer (some ⟨h, 0, none⟩), .agg #[.int .u8 5, .string (B ([]))]] w (AskPost n₀ g h S (askS 5 ([]) s) w) := by
  have hA := ahead_nil (d := 5) hb
  have hE := hb.env
  have hl := hb.rr.len
  have lg : g < w.heap.size := Blk.lt hb.rd
  have lh : h < w.heap.size := by obtain ⟨_, _, hx, _⟩ := hb.rr; exact Blk.lt hx
  have HA := Lib.hid hA; have HE := Lib.hid hE
  clear hb hE hA
  go_enter Tryd.func20, Tryd.ntmps20
  go_wp2_with fail
  obtain ⟨w1, hw1⟩ : ∃ w1, (w.alloc (.cells #[.int .u8 5, .string (B [])] 36)).alloc (.cells #[.int .u8 32] 5) = w1 := ⟨_, rfl⟩
  rw [hw1]
  replace HA := Lib.hid (hw1 ▸ HA.out)
  clear hw1
  have ca : w1.cell? ⟨w.heap.size, 1, none⟩ = some (.string (B [])) := HA.out.ask.cell 1
  go_region_held3 (fun w' => w'.cell? ⟨w.heap.size, 1, none⟩ = some (.string (B [])))
    (first | go_keep | exact World.grownBy.cell q3 (by assumption) (by have := lh; simp; omega) | exact World.grownBy.cell q2 (by assumption) (by have := lg; simp; omega))
    (first
      | (go_at_call 17; refine (word_any g [] s.1 s.2 _ (by omega) (by simp) (by exact HA.out.both.rd)).mono ?_; rintro e w2 ⟨rfl, k2, q2⟩)
      | (go_at_call 46; refine (refWord_any h S s [] _ hS (by simp) (by exact Rr.grown HA.out.both.rr (grown_undrew q2) (by simp; omega))).mono ?_; rintro e w3 ⟨rfl, k3, q3⟩))
  have hdone := ask_done HA.out HE.out (grown_undrew q2) q3 k2 k3 hg hh hne
  clear k2 q2 k3 q3
  go_wp2_with fail
  go_ret
  exact ⟨rfl, hdone.1, hdone.2⟩

set_option maxHeartbeats 1600000 in
set_option maxRecDepth 100000 in
theorem asked_5c {n₀ g h : Nat} {S : List UInt8} {s : Sta} {w : World} (c : UInt8) (r : List UInt8) (hS : S.length ≤ 1048576) (hg : n₀ ≤ g) (hh : n₀ ≤ h) (hne : g ≠ h) (hb : Both n₀ g h S s w) (hv : (c :: r).length ≤ 1048576) :
    Calls Tryd.prog 20 #[.pointer (some ⟨g, 0, none⟩), .pointer (some ⟨h, 0, none⟩), .agg #[.int .u8 5, .string (B (c :: r))]] w (AskPost n₀ g h S (askS 5 (c :: r) s) w) := by
  have hA := ahead_cons (d := 5) (c := c) (r := r) hb
  have hE := hb.env
  have hl := hb.rr.len
  have lg : g < w.heap.size := Blk.lt hb.rd
  have lh : h < w.heap.size := by obtain ⟨_, _, hx, _⟩ := hb.rr; exact Blk.lt hx
  have HA := Lib.hid hA; have HE := Lib.hid hE
  clear hb hE hA
  go_enter Tryd.func20, Tryd.ntmps20
  go_wp2_with fail
  obtain ⟨w1, hw1⟩ : ∃ w1, (w.alloc (.cells #[.int .u8 5, .string (B (c :: r))] 36)).alloc (.cells #[.int .u8 c.toNat] 5) = w1 := ⟨_, rfl⟩
  rw [hw1]
  replace HA := Lib.hid (hw1 ▸ HA.out)
  clear hw1
  have ca : w1.cell? ⟨w.heap.size, 1, none⟩ = some (.string (B (c :: r))) := HA.out.ask.cell 1
  go_region_held3 (fun w' => w'.cell? ⟨w.heap.size, 1, none⟩ = some (.string (B (c :: r))))
    (first | go_keep | exact World.grownBy.cell q3 (by assumption) (by have := lh; simp; omega) | exact World.grownBy.cell q2 (by assumption) (by have := lg; simp; omega))
    (first
      | (go_at_call 17; refine (word_any g (c :: r) s.1 s.2 _ (by omega) hv (by exact HA.out.both.rd)).mono ?_; rintro e w2 ⟨rfl, k2, q2⟩)
      | (go_at_call 46; refine (refWord_any h S s (c :: r) _ hS hv (by exact Rr.grown HA.out.both.rr (grown_undrew q2) (by simp; omega))).mono ?_; rintro e w3 ⟨rfl, k3, q3⟩))
  have hdone := ask_done HA.out HE.out (grown_undrew q2) q3 k2 k3 hg hh hne
  clear k2 q2 k3 q3
  go_wp2_with fail
  go_ret
  exact ⟨rfl, hdone.1, hdone.2⟩

set_option maxHeartbeats 1600000 in
set_option maxRecDepth 100000 in
theorem asked_6n {n₀ g h : Nat} {S : List UInt8} {s : Sta} {w : World} (hS : S.length ≤ 1048576) (_hg : n₀ ≤ g) (_hh : n₀ ≤ h) (_hne : g ≠ h) (hb : Both n₀ g h S s w) :
    Calls Tryd.prog 20 #[.pointer (some ⟨g, 0, none⟩), .pointer (some ⟨h, 0, none⟩), .agg #[.int .u8 6, .string (B ([]))]] w (AskPost n₀ g h S (askS 6 ([]) s) w) := by
  have hA := ahead_nil (d := 6) hb
  have hE := hb.env
  have hl := hb.rr.len
  have HA := Lib.hid hA; have HE := Lib.hid hE
  clear hb hE hA
  go_enter Tryd.func20, Tryd.ntmps20
  go_wp2_with fail
  obtain ⟨w1, hw1⟩ : ∃ w1, (w.alloc (.cells #[.int .u8 6, .string (B [])] 36)).alloc (.cells #[.int .u8 32] 5) = w1 := ⟨_, rfl⟩
  rw [hw1]
  replace HA := Lib.hid (hw1 ▸ HA.out)
  clear hw1
  have ca : w1.cell? ⟨w.heap.size + 1, 0, none⟩ = some (.int .u8 (fst []).toNat) := HA.out.one.cell 0
  have n1 : ∀ k, Calls Tryd.prog 18 #[.pointer (some ⟨g, 0, none⟩), .int .u8 (fst []).toNat] (w1.drewN k) fun e w' => e = .returned (.bool (nextB (fst []) s)) ∧ w' = w1.drewN k := fun k =>
    (next_any g s.1 s.2 (fst []) _ (by unfold maxLen; omega) (Blk.drewN HA.out.both.rd k)).mono fun e w' ⟨h1, h2⟩ => ⟨h1, h2.symm⟩
  have n2 : ∀ k, Calls Tryd.prog 47 #[.pointer (some ⟨h, 0, none⟩), .int .u8 (fst []).toNat] (w1.drewN k) fun e w' => e = .returned (.bool (nextB (fst []) s)) ∧ ∃ n, w' = (w1.drewN k).drewN n := fun k =>
    refNext_any h S s (fst []) _ hS (rr_drewN HA.out.both.rr k)
  have N1 := Lib.hid n1; have N2 := Lib.hid n2
  clear n1 n2
  go_quiet ((first | (go_at_call 18; exact Calls.quiet_of_same (N1.out _)) | (go_at_call 47; exact Calls.quiet_of (N2.out _))))
  go_wp2_with fail
  go_ret
  exact ⟨ret_bool (by simp), ⟨Blk.drewN HA.out.both.rd nq, rr_drewN HA.out.both.rr nq, HE.out.on (below_drewN (HA.out.below.mono HE.out.le) nq)⟩, below_drewN (HA.out.below.mono HE.out.le) nq⟩

set_option maxHeartbeats 1600000 in
set_option maxRecDepth 100000 in
theorem asked_6c {n₀ g h : Nat} {S : List UInt8} {s : Sta} {w : World} (c : UInt8) (r : List UInt8) (hS : S.length ≤ 1048576) (_hg : n₀ ≤ g) (_hh : n₀ ≤ h) (_hne : g ≠ h) (hb : Both n₀ g h S s w) :
    Calls Tryd.prog 20 #[.pointer (some ⟨g, 0, none⟩), .pointer (some ⟨h, 0, none⟩), .agg #[.int .u8 6, .string (B (c :: r))]] w (AskPost n₀ g h S (askS 6 (c :: r) s) w) := by
  have hA := ahead_cons (d := 6) (c := c) (r := r) hb
  have hE := hb.env
  have hl := hb.rr.len
  have HA := Lib.hid hA; have HE := Lib.hid hE
  clear hb hE hA
  go_enter Tryd.func20, Tryd.ntmps20
  go_wp2_with fail
  obtain ⟨w1, hw1⟩ : ∃ w1, (w.alloc (.cells #[.int .u8 6, .string (B (c :: r))] 36)).alloc (.cells #[.int .u8 c.toNat] 5) = w1 := ⟨_, rfl⟩
  rw [hw1]
  replace HA := Lib.hid (hw1 ▸ HA.out)
  clear hw1
  have ca : w1.cell? ⟨w.heap.size + 1, 0, none⟩ = some (.int .u8 (fst (c :: r)).toNat) := HA.out.one.cell 0
  have n1 : ∀ k, Calls Tryd.prog 18 #[.pointer (some ⟨g, 0, none⟩), .int .u8 (fst (c :: r)).toNat] (w1.drewN k) fun e w' => e = .returned (.bool (nextB (fst (c :: r)) s)) ∧ w' = w1.drewN k := fun k =>
    (next_any g s.1 s.2 (fst (c :: r)) _ (by unfold maxLen; omega) (Blk.drewN HA.out.both.rd k)).mono fun e w' ⟨h1, h2⟩ => ⟨h1, h2.symm⟩
  have n2 : ∀ k, Calls Tryd.prog 47 #[.pointer (some ⟨h, 0, none⟩), .int .u8 (fst (c :: r)).toNat] (w1.drewN k) fun e w' => e = .returned (.bool (nextB (fst (c :: r)) s)) ∧ ∃ n, w' = (w1.drewN k).drewN n := fun k =>
    refNext_any h S s (fst (c :: r)) _ hS (rr_drewN HA.out.both.rr k)
  have N1 := Lib.hid n1; have N2 := Lib.hid n2
  clear n1 n2
  go_quiet ((first | (go_at_call 18; exact Calls.quiet_of_same (N1.out _)) | (go_at_call 47; exact Calls.quiet_of (N2.out _))))
  go_wp2_with fail
  go_ret
  exact ⟨ret_bool (by simp), ⟨Blk.drewN HA.out.both.rd nq, rr_drewN HA.out.both.rr nq, HE.out.on (below_drewN (HA.out.below.mono HE.out.le) nq)⟩, below_drewN (HA.out.below.mono HE.out.le) nq⟩

set_option maxHeartbeats 1600000 in
set_option maxRecDepth 100000 in
theorem asked_dn {n₀ g h : Nat} {S : List UInt8} {s : Sta} {w : World} (d : Int) (_hS : S.length ≤ 1048576) (_hg : n₀ ≤ g) (_hh : n₀ ≤ h) (_hne : g ≠ h) (hb : Both n₀ g h S s w) (_d0 : (d == 0) = false) (_d1 : (d == 1) = false) (_d2 : (d == 2) = false) (_d3 : (d == 3) = false) (_d4 : (d == 4) = false) (_d5 : (d == 5) = false) (_d6 : (d == 6) = false) (_d7 : (d == 7) = false) (_d8 : (d == 8) = false) :
    Calls Tryd.prog 20 #[.pointer (some ⟨g, 0, none⟩), .pointer (some ⟨h, 0, none⟩), .agg #[.int .u8 d, .string (B ([]))]] w (AskPost n₀ g h S s w) := by
  have hA := ahead_nil (d := d) hb
  have hE := hb.env
  have HA := Lib.hid hA; have HE := Lib.hid hE
  clear hb hE hA
  go_enter Tryd.func20, Tryd.ntmps20
  go_wp2_with fail
  obtain ⟨w1, hw1⟩ : ∃ w1, (w.alloc (.cells #[.int .u8 d, .string (B [])] 36)).alloc (.cells #[.int .u8 32] 5) = w1 := ⟨_, rfl⟩
  rw [hw1]
  replace HA := Lib.hid (hw1 ▸ HA.out)
  clear hw1
  go_ret
  exact ⟨rfl, HA.out.both, HA.out.below.mono HE.out.le⟩

set_option maxHeartbeats 1600000 in
set_option maxRecDepth 100000 in
theorem asked_dc {n₀ g h : Nat} {S : List UInt8} {s : Sta} {w : World} (d : Int) (c : UInt8) (r : List UInt8) (_hS : S.length ≤ 1048576) (_hg : n₀ ≤ g) (_hh : n₀ ≤ h) (_hne : g ≠ h) (hb : Both n₀ g h S s w) (_d0 : (d == 0) = false) (_d1 : (d == 1) = false) (_d2 : (d == 2) = false) (_d3 : (d == 3) = false) (_d4 : (d == 4) = false) (_d5 : (d == 5) = false) (_d6 : (d == 6) = false) (_d7 : (d == 7) = false) (_d8 : (d == 8) = false) :
    Calls Tryd.prog 20 #[.pointer (some ⟨g, 0, none⟩), .pointer (some ⟨h, 0, none⟩), .agg #[.int .u8 d, .string (B (c :: r))]] w (AskPost n₀ g h S s w) := by
  have hA := ahead_cons (d := d) (c := c) (r := r) hb
  have hE := hb.env
  have HA := Lib.hid hA; have HE := Lib.hid hE
  clear hb hE hA
  go_enter Tryd.func20, Tryd.ntmps20
  go_wp2_with fail
  obtain ⟨w1, hw1⟩ : ∃ w1, (w.alloc (.cells #[.int .u8 d, .string (B (c :: r))] 36)).alloc (.cells #[.int .u8 c.toNat] 5) = w1 := ⟨_, rfl⟩
  rw [hw1]
  replace HA := Lib.hid (hw1 ▸ HA.out)
  clear hw1
  go_ret
  exact ⟨rfl, HA.out.both, HA.out.below.mono HE.out.le⟩

end Go.Proofs.YtmgifbibhodbbaaDoor

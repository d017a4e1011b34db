/- What is asked of both readers: bytes in a row. -/
import Derived.Test.YtmgifbibhodbbaaDoorK1
namespace Go.Proofs.YtmgifbibhodbbaaDoor
open Go.RowKit

theorem asked1_any (x y : UInt8) (p : Addr) (w : World) (hc : w.cell? p = some (.int .u8 y.toNat)) :
    Calls Tryd.prog 48 #[.int .u8 x.toNat, .pointer (some p)] w fun e w' => e = .returned (.bool (x == y)) ∧ w = w' := by
  go_enter Tryd.func48, Tryd.ntmps48
  go_wp2_with fail
  go_ret
  exact ⟨ret_bool (by rw [byte_beq]; simp), rfl⟩
theorem tw_all (p : UInt8 → Bool) (l : List UInt8) : ∀ x ∈ l.takeWhile p, p x = true := by
  induction l with
  | nil => simp
  | cons d r ih =>
    by_cases h : p d
    · simp only [List.takeWhile_cons, h, if_true, List.mem_cons]
      rintro c (rfl | hc)
      · exact h
      · exact ih c hc
    · simp [h]
theorem next_tw (c : UInt8) : ∀ (l : List UInt8) (f : Bool) (k : Nat), k ≤ (l.takeWhile (fun x => x == c)).length → nextB c (l.drop k, f) = decide (k < (l.takeWhile (fun x => x == c)).length)
  | [], f, k, hk => by simp [nextB]
  | d :: r, f, 0, hk => by
    by_cases h : d = c
    · subst h; simp [nextB]
    · simp [nextB, h]
  | d :: r, f, k + 1, hk => by
    by_cases h : d = c
    · subst h
      simp only [List.takeWhile_cons, beq_self_eq_true, if_true, List.length_cons] at hk ⊢
      have := next_tw d r f k (by omega)
      simp only [List.drop_succ_cons]
      rw [this]
      simp
    · simp [h] at hk

set_option maxHeartbeats 1600000 in
set_option maxRecDepth 100000 in
theorem asked_7n {n₀ g h : Nat} {S : List UInt8} {s : Sta} {w : World} (hS : S.length ≤ 1048576) (hg : n₀ ≤ g) (hh : n₀ ≤ h) (hne : g ≠ h) (hb : Both n₀ g h S s w) :
    Calls Tryd.prog 20 #[.pointer (some ⟨g, 0, none⟩), .pointer (some ⟨h, 0, none⟩), .agg #[.int .u8 7, .string (B ([]))]] w (AskPost n₀ g h S (askS 7 ([]) s) w) := by
  have hA := ahead_nil (d := 7) hb
  have hE := hb.env
  have hl := hb.rr.len
  have lg : g < w.heap.size := Blk.lt hb.rd
  have lh : h < w.heap.size := by obtain ⟨_, _, hx, _⟩ := hb.rr; exact Blk.lt hx
  have HA := Lib.hid hA; have HE := Lib.hid hE
  clear hb hE hA
  go_enter Tryd.func20, Tryd.ntmps20
  go_wp2_with fail
  obtain ⟨w1, hw1⟩ : ∃ w1, (w.alloc (.cells #[.int .u8 7, .string (B [])] 36)).alloc (.cells #[.int .u8 32] 5) = w1 := ⟨_, rfl⟩
  rw [hw1]
  replace HA := Lib.hid (hw1 ▸ HA.out)
  clear hw1
  have ca : w1.cell? ⟨w.heap.size + 1, 0, none⟩ = some (.int .u8 (fst []).toNat) := HA.out.one.cell 0
  have hcl : ∀ x : UInt8, Calls Tryd.prog 48 (#[.int .u8 x.toNat] ++ #[.pointer (some ⟨w.heap.size + 1, 0, none⟩)]) w1 fun e w' => e = .returned (.bool (x == fst [])) ∧ w1 = w' := fun x => asked1_any x (fst []) ⟨w.heap.size + 1, 0, none⟩ w1 ca
  have hwh := while_any g s.1 s.2 48 #[.pointer (some ⟨w.heap.size + 1, 0, none⟩)] (fun x => x == fst []) w1 (by unfold maxLen; omega) HA.out.both.rd (Go.Proofs.enters_of Tryd.func48 (by kernel_rfl) rfl) hcl
  have htl := takeWhile_le (fun x => x == fst []) s.1
  obtain ⟨N, hN⟩ : ∃ N, N = (s.1.takeWhile (fun x => x == fst [])).length := ⟨_, rfl⟩
  obtain ⟨G, hG⟩ : ∃ G, G = s.1.takeWhile (fun x => x == fst []) := ⟨_, rfl⟩
  have hGN : G.length = N := by rw [hG, hN]
  have hGall : ∀ i (hi : i < G.length), G[i] = fst [] := fun i hi => by
    have h2 := tw_all (fun x => x == fst []) s.1 G[i] (by rw [← hG]; exact List.getElem_mem hi)
    simpa using h2
  have hdrop : s.1.dropWhile (fun x => x == fst []) = s.1.drop N := by rw [hN]; exact dropWhile_eq_drop _ _
  have hnext : ∀ k, k ≤ N → nextB (fst []) (s.1.drop k, s.2) = decide (k < N) := fun k hk => by rw [hN] at hk ⊢; exact next_tw (fst []) s.1 s.2 k hk
  rw [← hG, hdrop] at hwh
  rw [← hN] at htl
  have hNS : N ≤ S.length := by omega
  have HW := Lib.hid hwh; have HNX := Lib.hid hnext; have HGN := Lib.hid hGN; have HGA := Lib.hid hGall; have HNN := Lib.hid hN
  have hfst : (fst []).toNat < 256 := UInt8.toNat_lt _
  clear hwh hnext hGN hGall hdrop hG hN hcl
  refine HW.out.mono ?_
  rintro e w2 ⟨rfl, k2, q2⟩
  have r2 := Rr.grown HA.out.both.rr q2 (by simp; omega)
  have o2 : Blk w2 (w.heap.size + 1) 5 #[.int .u8 (fst []).toNat] := Blk.grown HA.out.one q2 (by have := lg; simp; omega)
  have K2 := Lib.hid k2; have R2 := Lib.hid r2; have O2 := Lib.hid o2
  clear k2 r2 o2 ca
  go_wp2_with fail
  go_loopw [9] (fun n X => ∃ k : Nat, k ≤ N ∧ n = .int .i64 k ∧ Rr X h S (s.1.drop k, s.2) ∧ w2.grownBy X (some h)) (fun n _ => N - (intOf n).toNat)
  case atStart => exact ⟨0, Nat.zero_le _, rfl, R2.out, grown_refl _ _⟩
  case round =>
    obtain ⟨k, hk, rfl, hrr, hgr⟩ := hrel
    have oX : Blk wr (w.heap.size + 1) 5 #[.int .u8 (fst []).toNat] := Blk.grown O2.out hgr (by have := lh; simp; omega)
    have cX : wr.cell? ⟨w.heap.size + 1, 0, none⟩ = some (.int .u8 (fst []).toNat) := oX.cell 0
    have hnx := refNext_any h S (s.1.drop k, s.2) (fst []) wr hS hrr
    rw [HNX.out k hk] at hnx
    have HX := Lib.hid hnx; have HRR := Lib.hid hrr; have HGR := Lib.hid hgr; have OX := Lib.hid oX
    clear hnx hrr hgr oX
    by_cases hlt : k < N
    · rw [decide_eq_true hlt] at HX
      go_wp2_with fail
      refine HX.out.mono ?_
      rintro e x1 ⟨rfl, d1⟩
      obtain ⟨a, ha, hb, hs⟩ := rr_drewOf d1 HRR.out
      have hf : s.2 = false := by
        cases hf : s.2 with
        | false => rfl
        | true =>
          have h0 := HA.out.both.rr.ok hf
          rw [h0] at htl; simp at htl; omega
      rw [hf] at hb hs
      have hdl : s.1.drop k = S.drop a := hs
      have ha1 : a + 1 ≤ S.length := by
        have : (s.1.drop k).length = S.length - a := by rw [hdl]; simp
        simp at this; omega
      have z1 : x1.cell? ⟨h, 1, none⟩ = some (.int .i64 a) := hb.cell 1
      have y1 : x1.frozen? ⟨h, 1, none⟩ = false := hb.frozen 1
      have hst := Rr.step (n := 1) hb hdl (by simp; omega) ha
      rw [List.drop_drop] at hst
      have HST := Lib.hid hst; have D1 := Lib.hid d1; have HF := Lib.hid hf
      clear d1 hb hs hdl hf hst cX
      go_wp2_with fail
      go_roundw
      case rel => exact ⟨k + 1, by omega, by go_num, by rw [HF.out]; exact HST.out, grown_set2 (grown_then HGR.out (grown_drewOf D1.out _)) _ _⟩
      case measure => simp [intOf]; omega
    · rw [decide_eq_false hlt] at HX
      have hkN : k = N := by omega
      subst hkN
      go_wp2_with fail
      refine HX.out.mono ?_
      rintro e x1 ⟨rfl, d1⟩
      have hr1 := rr_drewOf d1 HRR.out
      have oX1 := blk_drewOf d1 OX.out
      have c1 : x1.cell? ⟨w.heap.size + 1, 0, none⟩ = some (.int .u8 (fst []).toNat) := oX1.cell 0
      have hdone := ask_done HA.out HE.out q2 (grown_then HGR.out (grown_drewOf d1 _)) K2.out hr1 hg hh hne
      have HD := Lib.hid hdone
      have hgl : (G.length : Int) = k := by have := HGN.out; omega
      have hgn := HGN.out
      subst hgn
      clear d1 hr1 oX1 hdone cX
      go_wp2_with fail
      go_loopw [10] (fun i X => ∃ j : Nat, j ≤ G.length ∧ i = .int .i64 j ∧ ∃ m, X = x1.drewN m) (fun i _ => G.length - (intOf i).toNat)
      case atStart => exact ⟨0, Nat.zero_le _, rfl, 0, by simp [World.drewN_zero]⟩
      case round =>
        obtain ⟨j, hj, rfl, m, rfl⟩ := hrel
        by_cases hjl : j < G.length
        · have hgj := HGA.out j hjl
          have hne0 : (((fst []).toNat : Int) != (fst []).toNat) = false := by simp
          have hj1 : (0 : Int) ≤ (j : Int) := Int.natCast_nonneg _
          have hj2 : (j : Int) < (G.length : Int) := by omega
          go_wp2_with fail
          go_quiet (fail)
          go_wp2_with fail
          go_roundw
          case rel => exact ⟨j + 1, by omega, by go_num, m + nq, rfl⟩
          case measure => simp [intOf]; omega
        · go_wp2_with fail
          go_ret
          refine ⟨rfl, ?_, HD.out.2.trans (below_drewN (Below.refl _ _) m)⟩
          have hb := HD.out.1.below (below_drewN (Below.refl _ _) m)
          rw [HNN.out] at hb
          exact hb

set_option maxHeartbeats 1600000 in
set_option maxRecDepth 100000 in
theorem asked_7c {n₀ g h : Nat} {S : List UInt8} {s : Sta} {w : World} (c : UInt8) (r : List UInt8) (hS : S.length ≤ 1048576) (hg : n₀ ≤ g) (hh : n₀ ≤ h) (hne : g ≠ h) (hb : Both n₀ g h S s w) :
    Calls Tryd.prog 20 #[.pointer (some ⟨g, 0, none⟩), .pointer (some ⟨h, 0, none⟩), .agg #[.int .u8 7, .string (B (c :: r))]] w (AskPost n₀ g h S (askS 7 (c :: r) s) w) := by
  have hA := ahead_cons (d := 7) (c := c) (r := r) hb
  have hE := hb.env
  have hl := hb.rr.len
  have lg : g < w.heap.size := Blk.lt hb.rd
  have lh : h < w.heap.size := by obtain ⟨_, _, hx, _⟩ := hb.rr; exact Blk.lt hx
  have HA := Lib.hid hA; have HE := Lib.hid hE
  clear hb hE hA
  go_enter Tryd.func20, Tryd.ntmps20
  go_wp2_with fail
  obtain ⟨w1, hw1⟩ : ∃ w1, (w.alloc (.cells #[.int .u8 7, .string (B (c :: r))] 36)).alloc (.cells #[.int .u8 c.toNat] 5) = w1 := ⟨_, rfl⟩
  rw [hw1]
  replace HA := Lib.hid (hw1 ▸ HA.out)
  clear hw1
  have ca : w1.cell? ⟨w.heap.size + 1, 0, none⟩ = some (.int .u8 (fst (c :: r)).toNat) := HA.out.one.cell 0
  have hcl : ∀ x : UInt8, Calls Tryd.prog 48 (#[.int .u8 x.toNat] ++ #[.pointer (some ⟨w.heap.size + 1, 0, none⟩)]) w1 fun e w' => e = .returned (.bool (x == fst (c :: r))) ∧ w1 = w' := fun x => asked1_any x (fst (c :: r)) ⟨w.heap.size + 1, 0, none⟩ w1 ca
  have hwh := while_any g s.1 s.2 48 #[.pointer (some ⟨w.heap.size + 1, 0, none⟩)] (fun x => x == fst (c :: r)) w1 (by unfold maxLen; omega) HA.out.both.rd (Go.Proofs.enters_of Tryd.func48 (by kernel_rfl) rfl) hcl
  have htl := takeWhile_le (fun x => x == fst (c :: r)) s.1
  obtain ⟨N, hN⟩ : ∃ N, N = (s.1.takeWhile (fun x => x == fst (c :: r))).length := ⟨_, rfl⟩
  obtain ⟨G, hG⟩ : ∃ G, G = s.1.takeWhile (fun x => x == fst (c :: r)) := ⟨_, rfl⟩
  have hGN : G.length = N := by rw [hG, hN]
  have hGall : ∀ i (hi : i < G.length), G[i] = fst (c :: r) := fun i hi => by
    have h2 := tw_all (fun x => x == fst (c :: r)) s.1 G[i] (by rw [← hG]; exact List.getElem_mem hi)
    simpa using h2
  have hdrop : s.1.dropWhile (fun x => x == fst (c :: r)) = s.1.drop N := by rw [hN]; exact dropWhile_eq_drop _ _
  have hnext : ∀ k, k ≤ N → nextB (fst (c :: r)) (s.1.drop k, s.2) = decide (k < N) := fun k hk => by rw [hN] at hk ⊢; exact next_tw (fst (c :: r)) s.1 s.2 k hk
  rw [← hG, hdrop] at hwh
  rw [← hN] at htl
  have hNS : N ≤ S.length := by omega
  have HW := Lib.hid hwh; have HNX := Lib.hid hnext; have HGN := Lib.hid hGN; have HGA := Lib.hid hGall; have HNN := Lib.hid hN
  have hfst : (fst (c :: r)).toNat < 256 := UInt8.toNat_lt _
  clear hwh hnext hGN hGall hdrop hG hN hcl
  refine HW.out.mono ?_
  rintro e w2 ⟨rfl, k2, q2⟩
  have r2 := Rr.grown HA.out.both.rr q2 (by simp; omega)
  have o2 : Blk w2 (w.heap.size + 1) 5 #[.int .u8 (fst (c :: r)).toNat] := Blk.grown HA.out.one q2 (by have := lg; simp; omega)
  have K2 := Lib.hid k2; have R2 := Lib.hid r2; have O2 := Lib.hid o2
  clear k2 r2 o2 ca
  go_wp2_with fail
  go_loopw [9] (fun n X => ∃ k : Nat, k ≤ N ∧ n = .int .i64 k ∧ Rr X h S (s.1.drop k, s.2) ∧ w2.grownBy X (some h)) (fun n _ => N - (intOf n).toNat)
  case atStart => exact ⟨0, Nat.zero_le _, rfl, R2.out, grown_refl _ _⟩
  case round =>
    obtain ⟨k, hk, rfl, hrr, hgr⟩ := hrel
    have oX : Blk wr (w.heap.size + 1) 5 #[.int .u8 (fst (c :: r)).toNat] := Blk.grown O2.out hgr (by have := lh; simp; omega)
    have cX : wr.cell? ⟨w.heap.size + 1, 0, none⟩ = some (.int .u8 (fst (c :: r)).toNat) := oX.cell 0
    have hnx := refNext_any h S (s.1.drop k, s.2) (fst (c :: r)) wr hS hrr
    rw [HNX.out k hk] at hnx
    have HX := Lib.hid hnx; have HRR := Lib.hid hrr; have HGR := Lib.hid hgr; have OX := Lib.hid oX
    clear hnx hrr hgr oX
    by_cases hlt : k < N
    · rw [decide_eq_true hlt] at HX
      go_wp2_with fail
      refine HX.out.mono ?_
      rintro e x1 ⟨rfl, d1⟩
      obtain ⟨a, ha, hb, hs⟩ := rr_drewOf d1 HRR.out
      have hf : s.2 = false := by
        cases hf : s.2 with
        | false => rfl
        | true =>
          have h0 := HA.out.both.rr.ok hf
          rw [h0] at htl; simp at htl; omega
      rw [hf] at hb hs
      have hdl : s.1.drop k = S.drop a := hs
      have ha1 : a + 1 ≤ S.length := by
        have : (s.1.drop k).length = S.length - a := by rw [hdl]; simp
        simp at this; omega
      have z1 : x1.cell? ⟨h, 1, none⟩ = some (.int .i64 a) := hb.cell 1
      have y1 : x1.frozen? ⟨h, 1, none⟩ = false := hb.frozen 1
      have hst := Rr.step (n := 1) hb hdl (by simp; omega) ha
      rw [List.drop_drop] at hst
      have HST := Lib.hid hst; have D1 := Lib.hid d1; have HF := Lib.hid hf
      clear d1 hb hs hdl hf hst cX
      go_wp2_with fail
      go_roundw
      case rel => exact ⟨k + 1, by omega, by go_num, by rw [HF.out]; exact HST.out, grown_set2 (grown_then HGR.out (grown_drewOf D1.out _)) _ _⟩
      case measure => simp [intOf]; omega
    · rw [decide_eq_false hlt] at HX
      have hkN : k = N := by omega
      subst hkN
      go_wp2_with fail
      refine HX.out.mono ?_
      rintro e x1 ⟨rfl, d1⟩
      have hr1 := rr_drewOf d1 HRR.out
      have oX1 := blk_drewOf d1 OX.out
      have c1 : x1.cell? ⟨w.heap.size + 1, 0, none⟩ = some (.int .u8 (fst (c :: r)).toNat) := oX1.cell 0
      have hdone := ask_done HA.out HE.out q2 (grown_then HGR.out (grown_drewOf d1 _)) K2.out hr1 hg hh hne
      have HD := Lib.hid hdone
      have hgl : (G.length : Int) = k := by have := HGN.out; omega
      have hgn := HGN.out
      subst hgn
      clear d1 hr1 oX1 hdone cX
      go_wp2_with fail
      go_loopw [10] (fun i X => ∃ j : Nat, j ≤ G.length ∧ i = .int .i64 j ∧ ∃ m, X = x1.drewN m) (fun i _ => G.length - (intOf i).toNat)
      case atStart => exact ⟨0, Nat.zero_le _, rfl, 0, by simp [World.drewN_zero]⟩
      case round =>
        obtain ⟨j, hj, rfl, m, rfl⟩ := hrel
        by_cases hjl : j < G.length
        · have hgj := HGA.out j hjl
          have hne0 : (((fst (c :: r)).toNat : Int) != (fst (c :: r)).toNat) = false := by simp
          have hj1 : (0 : Int) ≤ (j : Int) := Int.natCast_nonneg _
          have hj2 : (j : Int) < (G.length : Int) := by omega
          go_wp2_with fail
          go_quiet (fail)
          go_wp2_with fail
          go_roundw
          case rel => exact ⟨j + 1, by omega, by go_num, m + nq, rfl⟩
          case measure => simp [intOf]; omega
        · go_wp2_with fail
          go_ret
          refine ⟨rfl, ?_, HD.out.2.trans (below_drewN (Below.refl _ _) m)⟩
          have hb := HD.out.1.below (below_drewN (Below.refl _ _) m)
          rw [HNN.out] at hb
          exact hb

end Go.Proofs.YtmgifbibhodbbaaDoor

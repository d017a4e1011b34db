/- The contract of the reference's reader: Literal. -/
import Derived.Test.YtmgifbibhodbbaaDoorR5
namespace Go.Proofs.YtmgifbibhodbbaaDoor
open Go.RowKit

theorem refMust_at (g : Nat) (S : List UInt8) (s : Sta) (v : List UInt8) (w : World) (hS : S.length ≤ 1048576) (hv : v.length ≤ 1048576) (hr : Rr w g S s) :
    Calls Tryd.prog 45 #[.pointer (some ⟨g, 0, none⟩), .string (B v)] w fun e w' => e = .returned (.tuple #[]) ∧ Rr w' g S (pMust v s) ∧ w.grownBy w' (some g) :=
  refMust_any g S s v w (fun W hW => by subst hW; exact refWord_any g S s v W hS hv hr)

set_option maxHeartbeats 1600000 in
set_option maxRecDepth 100000 in
theorem refLiteral_any (g : Nat) (S : List UInt8) (s : Sta) (w : World) (hS : S.length ≤ 1048576) (hr : Rr w g S s) :
    Calls Tryd.prog 44 #[.pointer (some ⟨g, 0, none⟩)] w fun e w' => e = .returned (.string (B (pLit s).1)) ∧ Rr w' g S (pLit s).2 ∧ w.grownBy w' (some g) := by
  obtain ⟨s1, hs1⟩ : ∃ s1, s1 = pMust [123] s := ⟨_, rfl⟩
  obtain ⟨s2, hs2⟩ : ∃ s2, s2 = (pNumber s1).2 := ⟨_, rfl⟩
  obtain ⟨n, hnn⟩ : ∃ n, n = (pNumber s1).1 := ⟨_, rfl⟩
  obtain ⟨s3, hs3⟩ : ∃ s3, s3 = pMust [125, 13, 10] s2 := ⟨_, rfl⟩
  obtain ⟨s4, hs4⟩ : ∃ s4, s4 = pNeed (decide (n ≤ 65536 ∧ n ≤ s3.1.length)) s3 := ⟨_, rfl⟩
  obtain ⟨hSS, hN⟩ := lit_shape s s1 s2 s3 n hs1 hs2 hnn hs3
  have hn32 : n ≤ 4294967295 := by rw [hnn]; exact pNumber_le s1
  have hp : pLit s = if s4.2 then ([], s4) else (s4.1.take n, (s4.1.drop n, s4.2)) := by unfold pLit; rw [hSS, hN, ← hs4]
  have m1 : ∀ W, Rr W g S s → Calls Tryd.prog 45 #[.pointer (some ⟨g, 0, none⟩), .string (B [123])] W fun e w' => e = .returned (.tuple #[]) ∧ Rr w' g S s1 ∧ W.grownBy w' (some g) :=
    fun W h => by rw [hs1]; exact refMust_at g S s [123] W hS (by simp) h
  have m2 : ∀ W, Rr W g S s2 → Calls Tryd.prog 45 #[.pointer (some ⟨g, 0, none⟩), .string (B [125, 13, 10])] W fun e w' => e = .returned (.tuple #[]) ∧ Rr w' g S s3 ∧ W.grownBy w' (some g) :=
    fun W h => by rw [hs3]; exact refMust_at g S s2 [125, 13, 10] W hS (by simp) h
  have nm : ∀ W, Rr W g S s1 → Calls Tryd.prog 42 #[.pointer (some ⟨g, 0, none⟩)] W fun e w' => e = .returned (.int .u32 n) ∧ Rr w' g S s2 ∧ W.grownBy w' (some g) := fun W h => by
    have := refNumberR_any g S s1 W hS h
    rw [← hs2, ← hnn] at this; exact this
  have HP := Lib.hid hp; have HS4 := Lib.hid hs4
  have HR := Lib.hid hr; have M1 := Lib.hid m1; have M2 := Lib.hid m2; have NM := Lib.hid nm
  clear hr m1 m2 nm hp hSS hN hs1 hs2 hnn hs3 hs4
  go_enter Tryd.func44, Tryd.ntmps44
  go_wp2_with fail
  refine (M1.out _ HR.out).mono ?_
  rintro e w1 ⟨rfl, h1, g1⟩
  go_wp2_with fail
  refine (NM.out _ h1).mono ?_
  rintro e w2 ⟨rfl, h2, g2⟩
  have g2 := grown_then g1 g2
  go_wp2_with fail
  refine (M2.out _ h2).mono ?_
  rintro e w3 ⟨rfl, h3, g3⟩
  have G3 := Lib.hid (grown_then g2 g3)
  have H3 := Lib.hid h3
  have hl3 := h3.len
  clear h1 h2 h3 g1 g2 g3 HR
  by_cases hk : 65536 < (n : Int)
  · have hd : s4 = ([], true) := by rw [HS4.out]; simp [pNeed]; omega
    have HD := Lib.hid hd
    clear hd
    go_wp2_with fail
    refine (refFail_any g S s3 _ H3.out).mono ?_
    rintro e w4 ⟨rfl, h4, q4⟩
    obtain ⟨a, ha, hb, hs⟩ := h4
    have c2 : w4.cell? ⟨g, 2, none⟩ = some (.bool true) := hb.cell 2
    have HB := Lib.hid hb; have HSS := Lib.hid hs
    clear hb hs
    go_wp2_with fail
    go_ret
    rw [HP.out, HD.out, if_pos rfl]
    exact ⟨rfl, ⟨a, ha, HB.out, HSS.out⟩, grown_then G3.out q4⟩
  · have hk' : (n : Int) ≤ 65536 := by omega
    have hu3 : s3.1.length ≤ 1048576 := by omega
    by_cases hle : n ≤ s3.1.length
    · have hd : s4 = s3 := by rw [HS4.out, pNeed, if_pos (by simp; omega)]
      have hlt : decide (s3.1.length < n) = false := by simp; omega
      have HD := Lib.hid hd
      clear hd hk
      go_wp2_with fail
      refine (H3.out.rest).mono ?_
      rintro e w4 ⟨rfl, hd⟩
      obtain ⟨a, ha, hb, hs⟩ := rr_drewOf hd H3.out
      have c0 : w4.cell? ⟨g, 0, none⟩ = some (.string (B S)) := hb.cell 0
      have c1 : w4.cell? ⟨g, 1, none⟩ = some (.int .i64 a) := hb.cell 1
      have c2 : w4.cell? ⟨g, 2, none⟩ = some (.bool s3.2) := hb.cell 2
      have f1 : w4.frozen? ⟨g, 1, none⟩ = false := hb.frozen 1
      cases hf : s3.2 with
      | true =>
        rw [hf] at c2
        have HB := Lib.hid hb; have HSS := Lib.hid hs; have HF := Lib.hid hf; have HDD := Lib.hid hd
        clear hb hs hf hd
        go_wp2_with fail
        go_ret
        rw [HP.out, HD.out, HF.out, if_pos rfl]
        exact ⟨rfl, ⟨a, ha, HB.out, HSS.out⟩, grown_then G3.out (grown_drewOf HDD.out _)⟩
      | false =>
        rw [hf] at c2 hb hs
        replace hs : s3.1 = S.drop a := hs
        have hal : a + n ≤ S.length := by have : s3.1.length = S.length - a := by rw [hs]; simp
                                          omega
        have HB := Lib.hid hb; have HSS := Lib.hid hs; have HF := Lib.hid hf; have HDD := Lib.hid hd
        clear hb hs hf hd
        go_wp2_with fail
        go_quiet (fail)
        go_wp2_with fail
        go_ret
        rw [HP.out, HD.out, HF.out, if_neg (by simp)]
        have hstep := Rr.step HB.out HSS.out hle ha
        rename_i nq
        exact ⟨ret_str (B_cut S s3.1 a n HSS.out), rr_drewN hstep nq, grown_drewN (grown_set2 (grown_then G3.out (grown_drewOf HDD.out _)) _ _) nq⟩
    · have hd : s4 = ([], true) := by rw [HS4.out]; simp [pNeed]; omega
      have hlt : decide (s3.1.length < n) = true := by simp; omega
      have HD := Lib.hid hd
      clear hd hk
      go_wp2_with fail
      refine (H3.out.rest).mono ?_
      rintro e w4 ⟨rfl, hd⟩
      have HDD := Lib.hid hd
      clear hd
      go_wp2_with fail
      refine (refFail_any g S s3 _ (rr_drewOf HDD.out H3.out)).mono ?_
      rintro e w5 ⟨rfl, h4, q4⟩
      obtain ⟨a, ha, hb, hs⟩ := h4
      have c2 : w5.cell? ⟨g, 2, none⟩ = some (.bool true) := hb.cell 2
      have HB := Lib.hid hb; have HSS := Lib.hid hs
      clear hb hs
      go_wp2_with fail
      go_ret
      rw [HP.out, HD.out, if_pos rfl]
      exact ⟨rfl, ⟨a, ha, HB.out, HSS.out⟩, grown_then (grown_then G3.out (grown_drewOf HDD.out _)) q4⟩

end Go.Proofs.YtmgifbibhodbbaaDoor

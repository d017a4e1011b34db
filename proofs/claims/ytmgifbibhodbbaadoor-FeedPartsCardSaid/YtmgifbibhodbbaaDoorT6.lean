/- The contracts of Reader.Word, Blank and Literal. -/
import Derived.Test.YtmgifbibhodbbaaDoorT3
import Derived.Test.YtmgifbibhodbbaaDoorT5
namespace Go.Proofs.YtmgifbibhodbbaaDoor
open Go.RowKit

theorem wordB_failed (v l : List UInt8) : wordB v (l, true) = false := by simp [wordB]
theorem wordB_short (v l : List UInt8) (f : Bool) (h : l.length < v.length) : wordB v (l, f) = false := by simp [wordB]; omega
theorem wordB_eq (v l : List UInt8) (h : v.length ≤ l.length) : wordB v (l, false) = (up (l.take v.length) == up v) := by simp [wordB, h]

set_option maxHeartbeats 800000 in
set_option maxRecDepth 100000 in
theorem word_any (g : Nat) (v l : List UInt8) (f : Bool) (w : World) (hl : l.length ≤ 1048576) (hv : v.length ≤ 1048576) (hr : Rd w g l f) :
    Calls Tryd.prog 17 #[.pointer (some ⟨g, 0, none⟩), .string (B v)] w fun e w' => e = .returned (.bool (wordB v (l, f))) ∧ Rd w' g (pWord v (l, f)).1 (pWord v (l, f)).2 ∧ w.grownBy w' (some g) := by
  have c0 : w.cell? ⟨g, 0, none⟩ = some (.string (B l)) := hr.cell 0
  have c1 : w.cell? ⟨g, 1, none⟩ = some (.bool f) := hr.cell 1
  have HR := Lib.hid hr; clear hr
  cases f with
  | true =>
    have e1 : pWord v (l, true) = (l, true) := by simp [pWord, wordB_failed]
    rw [e1, wordB_failed]
    clear e1
    go_enter Tryd.func17, Tryd.ntmps17
    go_wp2_with fail
    go_ret
    exact ⟨rfl, HR.out, grown_refl _ _⟩
  | false =>
    by_cases hlt : l.length < v.length
    · have e1 : pWord v (l, false) = (l, false) := by simp [pWord, wordB_short v l false hlt]
      rw [e1, wordB_short v l false hlt]
      clear e1
      have hd : decide (l.length < v.length) = true := by simpa using hlt
      go_enter Tryd.func17, Tryd.ntmps17
      go_wp2_with fail
      go_ret
      exact ⟨rfl, HR.out, grown_refl _ _⟩
    · have hle : v.length ≤ l.length := by omega
      have e0 := wordB_eq v l hle
      have hd : decide (l.length < v.length) = false := by simpa using hlt
      have htk : (l.take v.length).length ≤ 1048576 := by simp; omega
      cases hb : (up (l.take v.length) == up v) with
      | true =>
        rw [hb] at e0
        have e1 : pWord v (l, false) = (l.drop v.length, false) := by simp [pWord, e0]
        rw [e1, e0]
        have HQ := Lib.hid (show up (l.take v.length) = up v by simpa using hb)
        clear e1 e0 hb
        go_enter Tryd.func17, Tryd.ntmps17
        go_wp2_with fail
        refine (upper_any _ _ htk).mono ?_
        rintro e w1 ⟨rfl, hb1⟩
        go_wp2_with fail
        refine (upper_any _ _ hv).mono ?_
        rintro e w2 ⟨rfl, hb2⟩
        rw [HQ.out]
        have h2 := Lib.hid (Blk.stay (Blk.stay HR.out hb1) hb2)
        go_wp2_with (go_at_call 40; refine (take_any g l false v.length _ (by unfold maxLen; omega) hle h2.out).mono ?_; rintro e w3 ⟨rfl, h3, h4⟩)
        go_ret
        exact ⟨rfl, h3, grown_then (grown_of_below (below_on hb1 hb2) _) h4⟩
      | false =>
        rw [hb] at e0
        have e1 : pWord v (l, false) = (l, false) := by simp [pWord, e0]
        rw [e1, e0]
        have HQ := Lib.hid hb
        clear e1 e0 hb
        go_enter Tryd.func17, Tryd.ntmps17
        go_wp2_with fail
        refine (upper_any _ _ htk).mono ?_
        rintro e w1 ⟨rfl, hb1⟩
        go_wp2_with fail
        refine (upper_any _ _ hv).mono ?_
        rintro e w2 ⟨rfl, hb2⟩
        have h2 := Lib.hid (Blk.stay (Blk.stay HR.out hb1) hb2)
        have hq := HQ.out
        go_wp2_with fail
        go_ret
        exact ⟨rfl, h2.out, grown_of_below (below_on hb1 hb2) _⟩

theorem blank_any (g : Nat) (l : List UInt8) (f : Bool) (w : World) (hl : l.length ≤ 1048576) (hr : Rd w g l f) :
    Calls Tryd.prog 32 #[.pointer (some ⟨g, 0, none⟩)] w fun e w' => e = .returned (.tuple #[]) ∧ Rd w' g (pMust [32] (l, f)).1 (pMust [32] (l, f)).2 ∧ w.grownBy w' (some g) := by
  have h1 := word_any g [32] l f w hl (by simp) hr
  have H1 := Lib.hid h1; clear h1 hr
  go_enter Tryd.func32, Tryd.ntmps32
  go_wp2_with (first
    | (go_at_call 17; refine H1.out.mono ?_; rintro e w1 ⟨rfl, h2, h3⟩)
    | (go_at_call 35; refine (need_any g _ _ _ _ h2).mono ?_; rintro e w2 ⟨rfl, h4, h5⟩))
  go_end0
  exact ⟨rfl, h4, grown_then h3 h5⟩

theorem lit_shape (s s1 s2 s3 : Sta) (n : Nat) (h1 : s1 = pMust [123] s) (h2 : s2 = (pNumber s1).2) (hn : n = (pNumber s1).1) (h3 : s3 = pMust [125, 13, 10] s2) :
    litS s = pNeed (decide (n ≤ 65536 ∧ n ≤ s3.1.length)) s3 ∧ litN s = n := by
  subst h1; subst h2; subst hn; subst h3
  exact ⟨rfl, rfl⟩

set_option maxHeartbeats 1600000 in
set_option maxRecDepth 100000 in
theorem literal_any {n₀ : Nat} (g : Nat) (l : List UInt8) (f : Bool) (w : World) (hl : l.length ≤ 1048576) (hn : n₀ ≤ g) (hE : Env n₀ w) (hr : Rd w g l f) :
    Calls Tryd.prog 16 #[.pointer (some ⟨g, 0, none⟩)] w fun e w' => e = .returned (.string (B (pLit (l, f)).1)) ∧ Rd w' g (pLit (l, f)).2.1 (pLit (l, f)).2.2 ∧ w.grownBy w' (some g) := by
  obtain ⟨s1, hs1⟩ : ∃ s1, s1 = pMust [123] (l, f) := ⟨_, rfl⟩
  obtain ⟨s2, hs2⟩ : ∃ s2, s2 = (pNumber s1).2 := ⟨_, rfl⟩
  obtain ⟨n, hnn⟩ : ∃ n, n = (pNumber s1).1 := ⟨_, rfl⟩
  obtain ⟨s3, hs3⟩ : ∃ s3, s3 = pMust [125, 13, 10] s2 := ⟨_, rfl⟩
  obtain ⟨s4, hs4⟩ : ∃ s4, s4 = pNeed (decide (n ≤ 65536 ∧ n ≤ s3.1.length)) s3 := ⟨_, rfl⟩
  obtain ⟨hS, hN⟩ := lit_shape (l, f) s1 s2 s3 n hs1 hs2 hnn hs3
  have hlen1 : s1.1.length ≤ 1048576 := by rw [hs1]; exact Nat.le_trans (pMust_len _ _) hl
  have hlen2 : s2.1.length ≤ 1048576 := by rw [hs2]; exact Nat.le_trans (pNumber_len _) hlen1
  have hlen3 : s3.1.length ≤ 1048576 := by rw [hs3]; exact Nat.le_trans (pMust_len _ _) hlen2
  have hlen4 : s4.1.length ≤ 1048576 := by rw [hs4]; exact Nat.le_trans (pNeed_len _ _) hlen3
  have hn32 : n ≤ 4294967295 := by rw [hnn]; exact pNumber_le s1
  have hp : pLit (l, f) = if s4.2 then ([], s4) else (s4.1.take n, (s4.1.drop n, s4.2)) := by unfold pLit; rw [hS, hN, ← hs4]
  have hle : s4.2 = false → n ≤ s4.1.length := by
    intro h
    have := litN_le (l, f) (by rw [hS, ← hs4]; exact h)
    rw [hS, ← hs4, hN] at this; exact this
  have w1' : ∀ W, Rd W g l f → Calls Tryd.prog 17 #[.pointer (some ⟨g, 0, none⟩), .string (B [123])] W fun e w' => e = .returned (.bool (wordB [123] (l, f))) ∧ Rd w' g (pWord [123] (l, f)).1 (pWord [123] (l, f)).2 ∧ W.grownBy w' (some g) :=
    fun W h => word_any g [123] l f W hl (by simp) h
  have w2' : ∀ W, Rd W g s2.1 s2.2 → Calls Tryd.prog 17 #[.pointer (some ⟨g, 0, none⟩), .string (B [125, 13, 10])] W fun e w' => e = .returned (.bool (wordB [125, 13, 10] s2)) ∧ Rd w' g (pWord [125, 13, 10] s2).1 (pWord [125, 13, 10] s2).2 ∧ W.grownBy w' (some g) :=
    fun W h => word_any g [125, 13, 10] s2.1 s2.2 W hlen2 (by simp) h
  have hm1 : pNeed (wordB [123] (l, f)) (pWord [123] (l, f)) = s1 := hs1.symm
  have hm2 : pNeed (wordB [125, 13, 10] s2) (pWord [125, 13, 10] s2) = s3 := hs3.symm
  have nm : ∀ W, Rd W g s1.1 s1.2 → Env n₀ W → Calls Tryd.prog 14 #[.pointer (some ⟨g, 0, none⟩)] W fun e w' => e = .returned (.int .u32 n) ∧ Rd w' g s2.1 s2.2 ∧ W.grownBy w' (some g) := fun W h hE => by
    have := number_any g s1.1 s1.2 W hlen1 hn hE h
    rw [← hs2, ← hnn] at this; exact this
  have n4 : ∀ (b : Bool) W, Rd W g s3.1 s3.2 → b = decide (n ≤ 65536 ∧ n ≤ s3.1.length) → Calls Tryd.prog 35 #[.pointer (some ⟨g, 0, none⟩), .bool b] W fun e w' => e = .returned (.tuple #[]) ∧ Rd w' g s4.1 s4.2 ∧ W.grownBy w' (some g) := fun b W h hb => by
    have := need_any g s3.1 s3.2 b W h
    rw [hb, ← hs4] at this; rw [hb]; exact this
  have HP := Lib.hid hp
  have HR := Lib.hid hr; have W1 := Lib.hid w1'; have W2 := Lib.hid w2'; have M1 := Lib.hid hm1; have M2 := Lib.hid hm2; have NM := Lib.hid nm; have N4 := Lib.hid n4; have HLE := Lib.hid hle
  have HS4 := Lib.hid hs4
  clear hr w1' w2' hm1 hm2 nm n4 hle hp hS hN hs1 hs2 hnn hs3 hs4
  have u3 : s3.1.length ≤ maxLen := by unfold maxLen; omega
  go_enter Tryd.func16, Tryd.ntmps16
  go_wp2_with fail
  refine (W1.out _ HR.out).mono ?_
  rintro e w1 ⟨rfl, h1, g1⟩
  go_wp2_with fail
  refine (need_any g _ _ _ _ h1).mono ?_
  rintro e w2 ⟨rfl, h2, g2⟩
  have h2 : Rd w2 g s1.1 s1.2 := by rw [← M1.out]; exact h2
  have g2 := grown_then g1 g2
  have HE := Lib.hid (hE.grown1 g2 hn)
  go_wp2_with fail
  refine (NM.out _ h2 HE.out).mono ?_
  rintro e w3 ⟨rfl, h3, g3⟩
  have g3 := grown_then g2 g3
  go_wp2_with fail
  refine (W2.out _ h3).mono ?_
  rintro e w4 ⟨rfl, h4, g4⟩
  have g4 := grown_then g3 g4
  go_wp2_with fail
  refine (need_any g _ _ _ _ h4).mono ?_
  rintro e w5 ⟨rfl, h5, g5⟩
  have g5 := grown_then g4 g5
  have h5 : Rd w5 g s3.1 s3.2 := by rw [← M2.out]; exact h5
  have c5 : w5.cell? ⟨g, 0, none⟩ = some (.string (B s3.1)) := h5.cell 0
  have H5 := Lib.hid h5
  clear h1 h2 h3 h4 h5 g1 g2 g3 g4 HR
  by_cases hk : n ≤ 65536
  · have hk' : (n : Int) ≤ 65536 := by omega
    have hb : decide (n ≤ s3.1.length) = decide (n ≤ 65536 ∧ n ≤ s3.1.length) := by simp [hk]
    have HB := Lib.hid hb; clear hb
    go_wp2_with fail
    refine (N4.out _ _ H5.out HB.out).mono ?_
    rintro e w6 ⟨rfl, h6, g6⟩
    have g6 := grown_then g5 g6
    have c6 : w6.cell? ⟨g, 1, none⟩ = some (.bool s4.2) := h6.cell 1
    have H6 := Lib.hid h6
    clear h6
    cases hf4 : s4.2 with
    | true =>
      rw [hf4] at c6
      have HF := Lib.hid hf4; clear hf4
      go_wp2_with fail
      go_ret
      rw [HP.out, HF.out, if_pos rfl]
      exact ⟨rfl, H6.out, g6⟩
    | false =>
      rw [hf4] at c6
      have hle := HLE.out hf4
      have HF := Lib.hid hf4; clear hf4
      go_wp2_with fail
      refine (take_any g s4.1 s4.2 n _ (by unfold maxLen; omega) hle H6.out).mono ?_
      rintro e w7 ⟨rfl, h7, g7⟩
      go_wp2_with fail
      go_ret
      rw [HP.out, HF.out, if_neg (by simp)]
      exact ⟨rfl, by rw [HF.out] at h7; exact h7, grown_then g6 g7⟩
  · have hk' : 65536 < (n : Int) := by omega
    have hb : false = decide (n ≤ 65536 ∧ n ≤ s3.1.length) := by simp [hk]
    have HB := Lib.hid hb; clear hb
    go_wp2_with fail
    refine (N4.out _ _ H5.out HB.out).mono ?_
    rintro e w6 ⟨rfl, h6, g6⟩
    have g6 := grown_then g5 g6
    have c6 : w6.cell? ⟨g, 1, none⟩ = some (.bool s4.2) := h6.cell 1
    have hf4 : s4.2 = true := by rw [HS4.out, ← HB.out]; rfl
    have H6 := Lib.hid h6
    clear h6
    rw [hf4] at c6
    have HF := Lib.hid hf4; clear hf4
    go_wp2_with fail
    go_ret
    rw [HP.out, HF.out, if_pos rfl]
    exact ⟨rfl, H6.out, g6⟩

end Go.Proofs.YtmgifbibhodbbaaDoor

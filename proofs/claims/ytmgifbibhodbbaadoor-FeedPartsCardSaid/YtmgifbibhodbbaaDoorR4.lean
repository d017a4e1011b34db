/- The contracts of the reference's reader: Next, Word, Atom, Number. -/
import Derived.Test.YtmgifbibhodbbaaDoorR3
import Derived.Test.YtmgifbibhodbbaaDoorT6
namespace Go.Proofs.YtmgifbibhodbbaaDoor
open Go.RowKit

theorem grown_drewOf {w w' : World} (h : ∃ n, w' = w.drewN n) (r : Option Nat) : w.grownBy w' r := by
  obtain ⟨n, rfl⟩ := h
  exact grown_drewN (grown_refl _ _) n
theorem blk_drewOf {w w' : World} (h : ∃ n, w' = w.drewN n) {g : Nat} {t : TypeId} {cs : Array Value} (hb : Blk w g t cs) : Blk w' g t cs := by
  obtain ⟨n, rfl⟩ := h
  exact hb.drewN n
theorem rr_drewOf {w w' : World} (h : ∃ n, w' = w.drewN n) {g : Nat} {S : List UInt8} {s : Sta} (hr : Rr w g S s) : Rr w' g S s := by
  obtain ⟨a, ha, hb, hs⟩ := hr
  exact ⟨a, ha, blk_drewOf h hb, hs⟩
theorem Rr.rest {w : World} {g : Nat} {S : List UInt8} {s : Sta} (hr : Rr w g S s) :
    Calls Tryd.prog 21 #[.pointer (some ⟨g, 0, none⟩)] w fun e w' => e = .returned (.string (B s.1)) ∧ ∃ n, w' = w.drewN n := by
  obtain ⟨a, ha, hb, hs⟩ := hr
  rw [hs]
  exact refRest_any g S a s.2 w ha hb
theorem Rr.len {w : World} {g : Nat} {S : List UInt8} {s : Sta} (hr : Rr w g S s) : s.1.length ≤ S.length := by
  obtain ⟨a, _, _, hs⟩ := hr
  rw [hs]; exact restL_len S a s.2
theorem Rr.ok {w : World} {g : Nat} {S : List UInt8} {s : Sta} (hr : Rr w g S s) : s.ok := by
  obtain ⟨a, _, _, hs⟩ := hr
  intro h
  rw [hs, h]; rfl
/-- so many bytes more are read -/
theorem Rr.step {w : World} {g : Nat} {S l : List UInt8} {a n : Nat} (hb : Rf w g S a false) (hs : l = S.drop a) (hn : n ≤ l.length) (ha : a ≤ S.length) :
    Rr (w.setCell ⟨g, 1, none⟩ (.int .i64 ((a : Int) + n))) g S (l.drop n, false) := by
  have hl : l.length = S.length - a := by rw [hs]; simp
  refine ⟨a + n, by omega, ?_, by rw [hs]; simp [restL, List.drop_drop]⟩
  have := Blk.set_ hb 1 (.int .i64 ((a : Int) + n))
  have e : ((a + n : Nat) : Int) = (a : Int) + n := by omega
  unfold Rf
  rw [e]
  exact this

theorem refNext_any (g : Nat) (S : List UInt8) (s : Sta) (c : UInt8) (w : World) (hS : S.length ≤ 1048576) (hr : Rr w g S s) :
    Calls Tryd.prog 47 #[.pointer (some ⟨g, 0, none⟩), .int .u8 c.toNat] w fun e w' => e = .returned (.bool (nextB c s)) ∧ ∃ n, w' = w.drewN n := by
  have hR := hr.rest
  have hlen := hr.len
  obtain ⟨l, f⟩ := s
  have HR := Lib.hid hR
  clear hR hr
  simp only at hlen
  have hlen : l.length ≤ 1048576 := by omega
  cases l with
  | nil =>
    go_enter Tryd.func47, Tryd.ntmps47
    go_wp2_with fail
    refine HR.out.mono ?_
    rintro e w1 ⟨rfl, hd⟩
    have HD := Lib.hid hd
    clear hd
    go_wp2_with fail
    go_ret
    exact ⟨rfl, HD.out⟩
  | cons d r =>
    go_enter Tryd.func47, Tryd.ntmps47
    go_wp2_with fail
    refine HR.out.mono ?_
    rintro e w1 ⟨rfl, hd⟩
    have HD := Lib.hid hd
    clear hd
    go_wp2_with fail
    go_ret
    exact ⟨ret_bool (byte_beq d c), HD.out⟩

set_option maxHeartbeats 800000 in
set_option maxRecDepth 100000 in
theorem refWord_any (g : Nat) (S : List UInt8) (s : Sta) (v : List UInt8) (w : World) (hS : S.length ≤ 1048576) (hv : v.length ≤ 1048576) (hr : Rr w g S s) :
    Calls Tryd.prog 46 #[.pointer (some ⟨g, 0, none⟩), .string (B v)] w fun e w' => e = .returned (.bool (wordB v s)) ∧ Rr w' g S (pWord v s) ∧ w.grownBy w' (some g) := by
  have hR := hr.rest
  have hlen := hr.len
  obtain ⟨l, f⟩ := s
  have HR := Lib.hid hR; have H := Lib.hid hr
  clear hR
  simp only at hlen
  have hlen : l.length ≤ 1048576 := by omega
  cases f with
  | true =>
    have e1 : pWord v (l, true) = (l, true) := by simp [pWord, wordB_failed]
    rw [e1, wordB_failed]
    clear e1 hr
    go_enter Tryd.func46, Tryd.ntmps46
    go_wp2_with fail
    refine HR.out.mono ?_
    rintro e w1 ⟨rfl, hd⟩
    have h1 := rr_drewOf hd H.out
    obtain ⟨a, ha, hb, hs⟩ := h1
    have c2 : w1.cell? ⟨g, 2, none⟩ = some (.bool true) := hb.cell 2
    have HD := Lib.hid hd; have HB := Lib.hid hb; have HS := Lib.hid hs
    clear hd hb hs
    go_wp2_with fail
    go_ret
    exact ⟨rfl, ⟨a, ha, HB.out, HS.out⟩, grown_drewOf HD.out _⟩
  | false =>
    by_cases hlt : l.length < v.length
    · have e1 : pWord v (l, false) = (l, false) := by simp [pWord, wordB_short v l false hlt]
      rw [e1, wordB_short v l false hlt]
      clear e1 hr
      have hd0 : decide (l.length < v.length) = true := by simpa using hlt
      go_enter Tryd.func46, Tryd.ntmps46
      go_wp2_with fail
      refine HR.out.mono ?_
      rintro e w1 ⟨rfl, hd⟩
      have h1 := rr_drewOf hd H.out
      obtain ⟨a, ha, hb, hs⟩ := h1
      have c2 : w1.cell? ⟨g, 2, none⟩ = some (.bool false) := hb.cell 2
      have HD := Lib.hid hd; have HB := Lib.hid hb; have HS := Lib.hid hs
      clear hd hb hs
      go_wp2_with fail
      go_ret
      exact ⟨rfl, ⟨a, ha, HB.out, HS.out⟩, grown_drewOf HD.out _⟩
    · have hle : v.length ≤ l.length := by omega
      have e0 := wordB_eq v l hle
      have hd0 : decide (l.length < v.length) = false := by simpa using hlt
      have htk : (l.take v.length).length ≤ 1048576 := by simp; omega
      cases hb0 : (up (l.take v.length) == up v) with
      | true =>
        rw [hb0] at e0
        have e1 : pWord v (l, false) = (l.drop v.length, false) := by simp [pWord, e0]
        rw [e1, e0]
        have HQ := Lib.hid (show up (l.take v.length) = up v by simpa using hb0)
        clear e1 e0 hb0 hr
        go_enter Tryd.func46, Tryd.ntmps46
        go_wp2_with fail
        refine HR.out.mono ?_
        rintro e w1 ⟨rfl, hd⟩
        have h1 := rr_drewOf hd H.out
        obtain ⟨a, ha, hb, hs⟩ := h1
        have c2 : w1.cell? ⟨g, 2, none⟩ = some (.bool false) := hb.cell 2
        have HD := Lib.hid hd; have HB := Lib.hid hb; have HS := Lib.hid hs
        clear hd hb hs
        go_wp2_with fail
        refine (refUpper_any _ _ htk).mono ?_
        rintro e w2 ⟨rfl, hb1⟩
        go_wp2_with fail
        refine (refUpper_any _ _ hv).mono ?_
        rintro e w3 ⟨rfl, hb2⟩
        rw [HQ.out]
        have h3 : Rf w3 g S a false := Blk.stay (Blk.stay HB.out hb1) hb2
        have c1 : w3.cell? ⟨g, 1, none⟩ = some (.int .i64 a) := h3.cell 1
        have f1 : w3.frozen? ⟨g, 1, none⟩ = false := h3.frozen 1
        have H3 := Lib.hid h3
        clear h3
        go_wp2_with fail
        go_ret
        exact ⟨rfl, Rr.step H3.out HS.out hle ha, grown_set2 (grown_then (grown_drewOf HD.out _) (grown_of_below (below_on hb1 hb2) _)) _ _⟩
      | false =>
        rw [hb0] at e0
        have e1 : pWord v (l, false) = (l, false) := by simp [pWord, e0]
        rw [e1, e0]
        have HQ := Lib.hid hb0
        clear e1 e0 hb0 hr
        go_enter Tryd.func46, Tryd.ntmps46
        go_wp2_with fail
        refine HR.out.mono ?_
        rintro e w1 ⟨rfl, hd⟩
        have h1 := rr_drewOf hd H.out
        obtain ⟨a, ha, hb, hs⟩ := h1
        have c2 : w1.cell? ⟨g, 2, none⟩ = some (.bool false) := hb.cell 2
        have HD := Lib.hid hd; have HB := Lib.hid hb; have HS := Lib.hid hs
        clear hd hb hs
        go_wp2_with fail
        refine (refUpper_any _ _ htk).mono ?_
        rintro e w2 ⟨rfl, hb1⟩
        go_wp2_with fail
        refine (refUpper_any _ _ hv).mono ?_
        rintro e w3 ⟨rfl, hb2⟩
        have h3 : Rf w3 g S a false := Blk.stay (Blk.stay HB.out hb1) hb2
        have H3 := Lib.hid h3
        have hq := HQ.out
        clear h3
        go_wp2_with fail
        go_ret
        exact ⟨rfl, ⟨a, ha, H3.out, HS.out⟩, grown_then (grown_drewOf HD.out _) (grown_of_below (below_on hb1 hb2) _)⟩

end Go.Proofs.YtmgifbibhodbbaaDoor

/- The contracts of the reference's reader: Atom, Number, Literal. -/
import Derived.Test.YtmgifbibhodbbaaDoorR4
import Derived.Test.YtmgifbibhodbbaaDoorT3
namespace Go.Proofs.YtmgifbibhodbbaaDoor
open Go.RowKit

theorem B_mid (l : List UInt8) (a b : Nat) : (B l).extract a b = B ((l.drop a).take (b - a)) := by
  apply Go.WideShapes.bytes_inj
  simp [B, ByteArray.extract, ByteArray.copySlice, List.extract_eq_take_drop]

theorem B_cut (S l : List UInt8) (a n : Nat) (h : l = S.drop a) : (B S).extract a (a + n) = B (l.take n) := by
  rw [B_mid, h, Nat.add_sub_cancel_left]
theorem rr_drewN {w : World} {g : Nat} {S : List UInt8} {s : Sta} (hr : Rr w g S s) (n : Nat) : Rr (w.drewN n) g S s := rr_drewOf ⟨n, rfl⟩ hr

theorem refRest_state {w : World} {g : Nat} {S : List UInt8} {l : List UInt8} {f : Bool} {a : Nat} (hb : Rf w g S a f) (hs : l = restL S a f) (hne : l ≠ []) : f = false ∧ l = S.drop a := by
  cases f with
  | true => rw [hs] at hne; exact absurd rfl hne
  | false => exact ⟨rfl, hs⟩

set_option maxHeartbeats 800000 in
set_option maxRecDepth 100000 in
theorem refAtom_any (g : Nat) (S : List UInt8) (s : Sta) (w : World) (hS : S.length ≤ 1048576) (hr : Rr w g S s) :
    Calls Tryd.prog 41 #[.pointer (some ⟨g, 0, none⟩)] w fun e w' => e = .returned (.string (B (pAtom s).1)) ∧ Rr w' g S (pAtom s).2 ∧ w.grownBy w' (some g) := by
  have hR := hr.rest
  have hlen := hr.len
  obtain ⟨l, f⟩ := s
  have HR := Lib.hid hR; have H := Lib.hid hr
  clear hR hr
  simp only at hlen
  have hlen : l.length ≤ 1048576 := by omega
  have htl := takeWhile_le atomB l
  by_cases hne : l.takeWhile atomB = []
  · have e1 : pAtom (l, f) = ([], ([], true)) := by simp [pAtom, hne, pNeed]
    rw [e1]
    have hn0 : (l.takeWhile atomB).length = 0 := by rw [hne]; rfl
    have HN := Lib.hid hn0
    clear e1 hne hn0 htl
    go_enter Tryd.func41, Tryd.ntmps41
    go_wp2_with fail
    refine HR.out.mono ?_
    rintro e w1 ⟨rfl, hd⟩
    have HD := Lib.hid hd
    clear hd
    go_wp2_with fail
    refine (refRow0_any l _ hlen).mono ?_
    rw [HN.out]
    rintro e w2 ⟨rfl, rfl⟩
    go_wp2_with fail
    refine (refFail_any g S (l, f) _ (rr_drewOf HD.out H.out)).mono ?_
    rintro e w2 ⟨rfl, h2, q2⟩
    go_wp2_with fail
    go_ret
    exact ⟨rfl, h2, grown_then (grown_drewOf HD.out _) q2⟩
  · obtain ⟨n, hn⟩ : ∃ n, n = (l.takeWhile atomB).length := ⟨_, rfl⟩
    have hn1 : 1 ≤ n := by rw [hn]; cases h : l.takeWhile atomB with | nil => exact absurd h hne | cons => simp
    have hnl : n ≤ l.length := by omega
    have htk : l.takeWhile atomB = l.take n := by rw [hn]; exact takeWhile_eq_take atomB l
    have hdr : l.dropWhile atomB = l.drop n := by rw [hn]; exact dropWhile_eq_drop atomB l
    have hlne : l ≠ [] := fun e => by rw [e] at hne; simp at hne
    have e1 : pAtom (l, f) = (l.take n, (l.drop n, f)) := by
      simp only [pAtom, pNeed]
      rw [if_pos (by rw [Bool.not_eq_true', List.isEmpty_eq_false_iff]; exact hne), htk, hdr]
    rw [e1]
    have HN := Lib.hid hn; have HL := Lib.hid hlne
    have hnz : ((n : Int) == 0) = false := by simp; omega
    clear e1 hne htl hn htk hdr hlne
    go_enter Tryd.func41, Tryd.ntmps41
    go_wp2_with fail
    refine HR.out.mono ?_
    rintro e w1 ⟨rfl, hd⟩
    obtain ⟨a, ha, hb, hs⟩ := rr_drewOf hd H.out
    obtain ⟨hf, hsd⟩ := refRest_state hb hs HL.out
    simp only at hf hsd hb
    subst hf
    have c0 : w1.cell? ⟨g, 0, none⟩ = some (.string (B S)) := hb.cell 0
    have c1 : w1.cell? ⟨g, 1, none⟩ = some (.int .i64 a) := hb.cell 1
    have f1 : w1.frozen? ⟨g, 1, none⟩ = false := hb.frozen 1
    have hal : a + n ≤ S.length := by have : l.length = S.length - a := by rw [hsd]; simp
                                      omega
    have HD := Lib.hid hd; have HB := Lib.hid hb; have HS := Lib.hid hsd
    clear hd hb hs hsd
    go_wp2_with fail
    refine (refRow0_any l _ hlen).mono ?_
    rw [← HN.out]
    rintro e w2 ⟨rfl, rfl⟩
    go_wp2_with fail
    go_quiet (fail)
    go_wp2_with fail
    go_ret
    have hstep := Rr.step HB.out HS.out hnl ha
    exact ⟨ret_str (B_cut S l a n HS.out), rr_drewN hstep nq, grown_drewN (grown_set2 (grown_drewOf HD.out _) _ _) nq⟩

set_option maxHeartbeats 800000 in
set_option maxRecDepth 100000 in
theorem refNumberR_any (g : Nat) (S : List UInt8) (s : Sta) (w : World) (hS : S.length ≤ 1048576) (hr : Rr w g S s) :
    Calls Tryd.prog 42 #[.pointer (some ⟨g, 0, none⟩)] w fun e w' => e = .returned (.int .u32 (pNumber s).1) ∧ Rr w' g S (pNumber s).2 ∧ w.grownBy w' (some g) := by
  have hR := hr.rest
  have hlen := hr.len
  obtain ⟨l, f⟩ := s
  have HR := Lib.hid hR; have H := Lib.hid hr
  clear hR hr
  simp only at hlen
  have hlen : l.length ≤ 1048576 := by omega
  have htl := takeWhile_le digB l
  have hdg := tw_dig l
  obtain ⟨n, hn⟩ : ∃ n, n = (l.takeWhile digB).length := ⟨_, rfl⟩
  have htk : l.takeWhile digB = l.take n := by rw [hn]; exact takeWhile_eq_take digB l
  have hdr : l.dropWhile digB = l.drop n := by rw [hn]; exact dropWhile_eq_drop digB l
  have hp : pNumber (l, f) = if numOk (l.take n) then (num (l.take n), (l.drop n, f)) else (0, ([], true)) := by simp only [pNumber]; rw [htk, hdr]
  rw [htk] at hdg
  have hnl : n ≤ l.length := by omega
  have hlt : (l.take n).length ≤ 1048576 := by simp; omega
  have hnum := refNumber_any (l.take n) hdg
  have HP := Lib.hid hp; have HN := Lib.hid hn; have HNUM := Lib.hid hnum
  clear hp hn htk hdr hdg hnum htl
  cases hok : numOk (l.take n) with
  | false =>
    have e1 : pNumber (l, f) = (0, ([], true)) := by rw [HP.out, hok]; rfl
    rw [e1]
    have HO := Lib.hid hok
    clear e1 hok
    go_enter Tryd.func42, Tryd.ntmps42
    go_wp2_with fail
    refine HR.out.mono ?_
    rintro e w1 ⟨rfl, hd⟩
    have HD := Lib.hid hd
    clear hd
    go_wp2_with fail
    refine (refRow1_any l _ hlen).mono ?_
    rw [← HN.out]
    rintro e w2 ⟨rfl, rfl⟩
    go_wp2_with fail
    refine (HNUM.out _ hlt).mono ?_
    rintro e w2 ⟨v, rfl, hv, rfl⟩
    rw [HO.out]
    go_wp2_with fail
    refine (refFail_any g S (l, f) _ (rr_drewOf HD.out H.out)).mono ?_
    rintro e w2 ⟨rfl, h2, q2⟩
    go_wp2_with fail
    go_ret
    exact ⟨rfl, h2, grown_then (grown_drewOf HD.out _) q2⟩
  | true =>
    have e1 : pNumber (l, f) = (num (l.take n), (l.drop n, f)) := by rw [HP.out, hok]; rfl
    have hle : num (l.take n) ≤ 4294967295 := by simp only [numOk, Bool.and_eq_true, decide_eq_true_eq] at hok; exact hok.2
    have hlne : l ≠ [] := fun e => by rw [e] at hok; simp [numOk] at hok
    rw [e1]
    have HO := Lib.hid hok; have HL := Lib.hid hlne
    clear e1 hok hlne
    go_enter Tryd.func42, Tryd.ntmps42
    go_wp2_with fail
    refine HR.out.mono ?_
    rintro e w1 ⟨rfl, hd⟩
    obtain ⟨a, ha, hb, hs⟩ := rr_drewOf hd H.out
    obtain ⟨hf, hsd⟩ := refRest_state hb hs HL.out
    simp only at hf hsd hb
    subst hf
    have c1 : w1.cell? ⟨g, 1, none⟩ = some (.int .i64 a) := hb.cell 1
    have f1 : w1.frozen? ⟨g, 1, none⟩ = false := hb.frozen 1
    have hal : a + n ≤ S.length := by have : l.length = S.length - a := by rw [hsd]; simp
                                      omega
    have HD := Lib.hid hd; have HB := Lib.hid hb; have HS := Lib.hid hsd
    clear hd hb hs hsd
    go_wp2_with fail
    refine (refRow1_any l _ hlen).mono ?_
    rw [← HN.out]
    rintro e w2 ⟨rfl, rfl⟩
    go_wp2_with fail
    refine (HNUM.out _ hlt).mono ?_
    rintro e w2 ⟨v, rfl, hv, rfl⟩
    rw [HO.out]
    obtain rfl := hv HO.out
    clear hv
    go_wp2_with fail
    go_ret
    exact ⟨rfl, Rr.step HB.out HS.out hnl ha, grown_set2 (grown_drewOf HD.out _) _ _⟩

end Go.Proofs.YtmgifbibhodbbaaDoor

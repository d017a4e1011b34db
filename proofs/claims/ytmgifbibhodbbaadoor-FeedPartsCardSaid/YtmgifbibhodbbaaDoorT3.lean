/- The contract of Reader.Number. -/
import Derived.Test.YtmgifbibhodbbaaDoorT2
import Derived.Test.YtmgifbibhodbbaaDoorP1
import Derived.Lib.AtoiErrMem
namespace Go.Proofs.YtmgifbibhodbbaaDoor
open Go.RowKit

theorem below_bytes (w : World) (s : ByteArray) (w' : World) (h : w' = w ∨ w' = Lib.bytesWorld w 5 s) : Below w.heap.size w w' := by
  rcases h with rfl | rfl
  · exact Below.refl _ _
  · exact Lib.bytesWorld_below _ _ _

set_option maxHeartbeats 800000 in
theorem number_any {n₀ : Nat} (g : Nat) (l : List UInt8) (f : Bool) (w : World) (hl : l.length ≤ 1048576) (hn : n₀ ≤ g) (hE : Env n₀ w) (hr : Rd w g l f) :
    Calls Tryd.prog 14 #[.pointer (some ⟨g, 0, none⟩)] w fun e w' => e = .returned (.int .u32 (pNumber (l, f)).1) ∧ Rd w' g (pNumber (l, f)).2.1 (pNumber (l, f)).2.2 ∧ w.grownBy w' (some g) := by
  have h1 := while_any g l f 36 #[] digB w (by unfold maxLen; omega) hr (Go.Proofs.enters_of Tryd.func36 (by kernel_rfl) rfl) (fun c => digital_any c w)
  have htl := takeWhile_le digB l
  have hdg := tw_dig l
  have hpn : pNumber (l, f) = if numOk (l.takeWhile digB) then (num (l.takeWhile digB), (l.dropWhile digB, f)) else (0, ([], true)) := rfl
  obtain ⟨s, hs⟩ : ∃ s, s = l.takeWhile digB := ⟨_, rfl⟩
  rw [← hs] at h1 htl hdg hpn
  have HPN := Lib.hid hpn
  have H1 := Lib.hid h1
  have HDG := Lib.hid hdg
  have hsz : (B s).size ≤ 1048576 := by rw [B_size]; omega
  clear h1 hr hs hdg hpn
  by_cases hne : s = []
  · subst hne
    have hno : pNumber (l, f) = (0, ([], true)) := HPN.out
    rw [hno]
    have HNO := Lib.hid hno
    clear hno
    go_enter Tryd.func14, Tryd.ntmps14
    go_wp2_with (first
      | (go_at_call 33; refine H1.out.mono ?_; rintro e w1 ⟨rfl, h2, h3⟩; obtain ⟨t, p, hv⟩ := (hE.grown1 h3 hn).here.syn; have HV := Lib.hid hv; clear hv)
      | (go_at_call 37; refine (Any.strconv_ParseUint_10_at32_syntax_var Tryd.laysPu14 _ (by omega) (by rw [B_data]; rfl) t p _ HV.out).mono ?_; rintro e w2 ⟨N, rfl, hN, hb, hB⟩; have h2' := Lib.hid (Blk.stay h2 hB); clear hb)
      | (go_at_call 9; refine (fail_any g _ _ _ h2'.out).mono ?_; rintro e w3 ⟨rfl, h4, h5⟩))
    go_ret
    exact ⟨rfl, h4, grown_then (grown_below h3 hB) h5⟩
  · by_cases hle : num s ≤ 4294967295
    · have hp : Lib.parseUintB 32 (B s).data.toList = .ok (num s) := by rw [B_data, parse_digits s HDG.out hne, if_pos hle]
      have hok := numOk_iff s HDG.out hne hle
      have HP := Lib.hid hp
      clear hp
      by_cases heq : Lib.decDigits (num s) = s
      · have hno : pNumber (l, f) = (num s, (l.dropWhile digB, f)) := by rw [HPN.out, hok]; simp [heq]
        rw [hno]
        have HEQ := Lib.hid heq
        clear hno heq hok
        go_enter Tryd.func14, Tryd.ntmps14
        go_wp2_with (first
          | (go_at_call 33; refine H1.out.mono ?_; rintro e w1 ⟨rfl, h2, h3⟩)
          | (go_at_call 37; refine (Tryd.strconv_ParseUint_10_at32_ok _ (by omega) _ HP.out _).mono ?_; rintro e w2 ⟨rfl, hb⟩; have hB := below_bytes _ _ _ hb; have h2' := Lib.hid (Blk.stay h2 hB); clear hb; have hE2 := ((hE.grown1 h3 hn).below hB).here.tab; have HE2 := Lib.hid hE2; clear hE2)
          | (go_at_call 38; refine (formatUint_any (num s) (by omega) _ HE2.out).mono ?_; rw [HEQ.out]; rintro e w3 ⟨rfl, hB3⟩))
        go_ret
        exact ⟨rfl, Blk.stay h2'.out hB3, grown_below (grown_below h3 hB) hB3⟩
      · have hno : pNumber (l, f) = (0, ([], true)) := by rw [HPN.out, hok]; simp [heq]
        rw [hno]
        have HEQ := Lib.hid heq
        clear hno heq hok
        go_enter Tryd.func14, Tryd.ntmps14
        go_wp2_with (first
          | (go_at_call 33; refine H1.out.mono ?_; rintro e w1 ⟨rfl, h2, h3⟩)
          | (go_at_call 37; refine (Tryd.strconv_ParseUint_10_at32_ok _ (by omega) _ HP.out _).mono ?_; rintro e w2 ⟨rfl, hb⟩; have hB := below_bytes _ _ _ hb; have h2' := Lib.hid (Blk.stay h2 hB); clear hb; have hE2 := ((hE.grown1 h3 hn).below hB).here.tab; have HE2 := Lib.hid hE2; clear hE2)
          | (go_at_call 38; refine (formatUint_any (num s) (by omega) _ HE2.out).mono ?_; rintro e w3 ⟨rfl, hB3⟩; have h3' := Lib.hid (Blk.stay h2'.out hB3); have hne3 : (!(Lib.decDigits (num s) == s)) = true := by simpa using HEQ.out)
          | (go_at_call 9; refine (fail_any g _ _ _ h3'.out).mono ?_; rintro e w4 ⟨rfl, h4, h5⟩))
        go_ret
        exact ⟨rfl, h4, grown_then (grown_below (grown_below h3 hB) hB3) h5⟩
    · have hp : Lib.parseUintB 32 (B s).data.toList = .range := by rw [B_data, parse_digits s HDG.out hne, if_neg hle]
      have hok : numOk s = false := by simp [numOk]; omega
      have hno : pNumber (l, f) = (0, ([], true)) := by rw [HPN.out, hok]; rfl
      rw [hno]
      have HP := Lib.hid hp
      clear hno hp hok
      go_enter Tryd.func14, Tryd.ntmps14
      go_wp2_with (first
        | (go_at_call 33; refine H1.out.mono ?_; rintro e w1 ⟨rfl, h2, h3⟩; obtain ⟨t, p, hv⟩ := (hE.grown1 h3 hn).here.rng; have HV := Lib.hid hv; clear hv)
        | (go_at_call 37; refine (Tryd.strconv_ParseUint_10_at32_range_var _ (by omega) HP.out t p _ HV.out).mono ?_; rintro e w2 ⟨N, rfl, hN, hb, hB⟩; have h2' := Lib.hid (Blk.stay h2 hB); clear hb)
        | (go_at_call 9; refine (fail_any g _ _ _ h2'.out).mono ?_; rintro e w3 ⟨rfl, h4, h5⟩))
      go_ret
      exact ⟨rfl, h4, grown_then (grown_below h3 hB) h5⟩

end Go.Proofs.YtmgifbibhodbbaaDoor
